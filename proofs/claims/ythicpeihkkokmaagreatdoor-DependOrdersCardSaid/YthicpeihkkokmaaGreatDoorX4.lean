/- A verified evaluator of Go functions. -/
import Derived.Test.YthicpeihkkokmaaGreatDoorX3
set_option linter.unusedVariables false
set_option linter.unusedSimpArgs false
namespace Go.Ex
variable{w0 w:World}{G:GP}{β:ai}{A A':AW}{B:Nat}{blk blk':aG}{e t ty:xN}{P:Program}{E:az}{δ:FM}{d:D}{x':xM}
open Go.RowKit
noncomputable section
def lI(v:xM):Bool:=
 match v with
 | .chan (some (_+1))=>true
 | .int _ _=>true
 | .bool _=>true
 | .string _=>true
 | .nilFunc=>true
 | .nilIface=>true
 | .pointer none=>true
 | .slice none 0 0=>true
 | .map none=>true
 | .func (.func _) ⟨[]⟩ ⟨[]⟩=>true
 |_=>false
def nL(ih:xM->AW->Im)(l:C3):AW->Option (List xM×AW):=
 List.rec (motive:=fun _=>AW->Option (List xM×AW)) (fun A=>some ([],A))
  (fun v _ r A=>match ih v A with|some (u,A1)=>(match r A1 with|some (us,A2)=>some (u::us,A2)|none=>none)|none=>none) l
def AW.pop(A:AW)(r:List Node):AW:=⟨A.heap,A.next,r⟩
def nJ(A:AW)(k:NK)(us:C3):Im:=
 match A.tape with
 |[]=>none
 |nd::r=>bs (n7 k nd.k) (bs (nI us nd.args) (bs (fB nd.res) (some (nd.res,A.pop r)) none) none) none
def JA(A:AW)(B:Nat):Option AW:=
 match A.get B with
 |some ⟨.cells cs,es,ex,_,ty⟩=>some (A.put B (some ⟨.cells cs,es,ex,true,ty⟩))
 |_=>none
def DU(G:Nat)(ih:xM->AW->Im)(v:xM)(A:AW):Im:=
 match v with
 | .iface B (.chan (some (_+1)))=>match A.get B with
  |some ⟨.own c,es,ex,_,ty⟩=>bs (Nat.ble G B) (bs (fB c) (some (c,A.put B (some ⟨.own c,es,ex,true,ty⟩))) none) none
  |_=>none
 | .slice (some ⟨B,o,none⟩) k _=>match A.get B with
  |some ⟨.cells cs,es,_,_,_⟩=>match pE (Nat.mul k es) (ra o cs) with
   |some l=>match nL ih l A with
    |some (us,A1)=>match nJ A1 (.dB es k) us with
     |some (u,A2)=>match JA A2 B with
      |some A3=>bs (Nat.ble G B) (some (u,A3)) none
      |none=>none
     |none=>none
    |none=>none
   |none=>none
  |_=>none
 | .pointer (some ⟨B,o,none⟩)=>match A.get B with
  |some ⟨.cells cs,_,_,_,_⟩=>match nL ih cs A with
   |some (us,A1)=>match nJ A1 (.Hb o) us with
    |some (u,A2)=>match JA A2 B with
     |some A3=>bs (Nat.ble G B) (some (u,A3)) none
     |none=>none
    |none=>none
   |none=>none
  |_=>none
 | .agg ⟨l⟩=>match nL ih l A with
  |some (us,A1)=>some (.agg ⟨us⟩,A1)
  |none=>none
 | .tuple ⟨l⟩=>match nL ih l A with
  |some (us,A1)=>some (.tuple ⟨us⟩,A1)
  |none=>none
 |_=>none
def lL(G n:Nat):xM->AW->Im:=
 Nat.rec (motive:=fun _=>xM->AW->Im) (fun v A=>bs (lI v) (some (v,A)) none) (fun _ ih v A=>bs (lI v) (some (v,A)) (DU G ih v A)) n
theorem Inv.pop(h:Inv w0 G β A w){r:List Node}(hr:∀nd∈r,nd∈A.tape):Inv w0 G β (A.pop r) w:=
 ⟨h.below,h.ft,h.du,h.loc,h.inj,h.cont,h.jn,h.dB,h.sep,fun nd dw=>h.dX nd (hr nd dw),h.own,h.iG,h.lay,h.xg,h.jM,h.zo,h.dP⟩
theorem nW{k:NK}{us:C3}{u:xM}(h:nJ A k us=some (u,A')):∃nd r c,A.tape=nd::r/\nd.k=k/\nd.args=us/\nd.res=u/\u= .chan (some (c+1))/\A'=A.pop r:=by
 unfold nJ at h;split at h
 ·cases h
 ·rename_i nd r ht;rcases aC h with⟨h1,h⟩|⟨_,h⟩
  ·rcases aC h with⟨h2,h⟩|⟨_,h⟩
   ·rcases aC h with⟨h3,h⟩|⟨_,h⟩<;>cases h
    unfold fB at h3;split at h3
    ·rename_i c hc;exact⟨nd,r,c,ht,(qb h1).symm,(oQ _ _ h2).symm,rfl,hc,rfl⟩
    ·cases h3
   ·cases h
  ·cases h
def ai.qB(β:ai)(b:Nat)(aB:KB):ai:={β with z:=fun x=>if x=b then some aB else β.z x}
theorem ai.vw(β:ai)(b:Nat)(aB:KB)(x:Nat):(β.qB b aB).z x=if x=b then some aB else β.z x:=rfl
theorem Inv.still(h:Inv w0 G β A w){l:Loc}{aB:KB}{fz:Nat×Nat}(hk:A.get B=some blk)(hp:(∃cs,blk.obj= .cells cs)\/∃c,blk.obj= .own c)(hB:G.n<=B)(hl:β B=some l)(hh:w.heap[l.b]? =some (.cells aB e fz)):
 Inv w0 G (β.qB l.b aB) (A.put B (some {blk with ro:=true})) w/\∀N,β.grow (β.qB l.b aB) N:=by
 have hzm:∀b c,β.z b=some c->(β.qB l.b aB).z b=some c:=fun b c hz=>by
  rw[ai.vw];by_cases hb:b=l.b
  ·rw[if_pos hb]
   grind [h.dB]
  grind
 have aN:β.le (β.qB l.b aB):=⟨fun _ _ e=>e,hzm,fun _ _ e=>e,rfl,rfl⟩;have p9:∀D,((A.put B (some {blk with ro:=true})).get D).isSome=true->(A.get D).isSome=true:=fun D h=>by
  grind [hk,A.gd]
 have nU:=h.ft B l hl;have iS:∀{l2:Loc} {o:Option Obj},gB (β.qB l.b aB) l2 blk o->gB (β.qB l.b aB) l2 {blk with ro:=true} o:=fun{l2 o} hb=>by
  grind [gB]
 have bm8:∀{β':ai} {C:Nat},jA β' C blk->jA β' C {blk with ro:=true}:=fun{β' C} ho=>by
  grind [jA]
 refine⟨⟨h.below,h.ft,fun C hC=> ?_,h.loc,fun C C' lc pV e e' eG ha kR=>h.inj C C' lc pV e e' eG (p9 C ha) (p9 C' kR),fun C k lc fq e=> ?_,h.jn,fun b c hz=> ?_,fun C lc k hG e fq hs=> ?_,h.dX,fun C k fq=> ?_,h.iG,h.lay,h.xg,h.jM,fun b c hz=> ?_,fun b hh hy=> ?_⟩,fun N=>⟨fun _ _=>rfl,hzm,fun _ _=>rfl,rfl,rfl⟩⟩
 ·have My:A.next<=C:=hC
  grind [A.gd,h.du]
 ·rcases A.gd B (some {blk with ro:=true}) C with⟨e2,e3⟩|⟨e2,_⟩|⟨e2,_⟩
  ·subst e3;rw[e2] at fq;cases fq;exact iS ((h.cont C blk lc hk e).mono aN)
  ·grind
  ·rw[e2] at fq;exact(h.cont C k lc fq e).mono aN
 ·rw[ai.vw] at hz;by_cases hb:b=l.b
  ·grind
  ·rw[if_neg hb] at hz;exact h.dB b c hz
 ·rcases A.gd B (some {blk with ro:=true}) C with⟨e2,e3⟩|⟨e2,_⟩|⟨e2,bo⟩
  ·grind [aG.still]
  ·grind
  ·rw[e2] at fq;rw[ai.vw,if_neg (fun eG=>bo (h.inj C B lc l e hl eG (by rw[fq];rfl) (by rw[hk];rfl)))];exact h.sep C lc k hG e fq hs
 ·rcases A.gd B (some {blk with ro:=true}) C with⟨e2,e3⟩|⟨e2,_⟩|⟨e2,_⟩
  ·subst e3;rw[e2] at fq;cases fq;exact bm8 ((h.own C blk hk).mono aN)
  ·grind
  ·rw[e2] at fq;exact(h.own C k fq).mono aN
 ·rw[ai.vw] at hz;by_cases hb:b=l.b
  ·rw[hb];rcases(h.loc B l hl).2 with h1|h1|h1
   ·omega
   ·grind
   ·exact .inr (.inr h1)
  ·rw[if_neg hb] at hz;exact h.zo b c hz
 ·obtain⟨y1,y2,y3,y4⟩:=h.dP b hh hy;exact⟨y1,by rw[ai.vw,if_neg (fun e=>y4 B l hl (by rw[hk];rfl) e.symm)];exact y2,y3,fun C lc e ha=>y4 C lc e (p9 C ha)⟩
theorem Inv.Gg(h:Inv w0 G β A w)(hk:A.get B=some blk)(hl:β B=none)(ho:jA β B blk'):Inv w0 G β (A.put B (some blk')) w:=by
 have p9:∀D,D≠B->∀k,(A.put B (some blk')).get D=some k->A.get D=some k:=fun D hD k h=>by
  grind [absurd,A.gd]
 have ne:∀C lc,β C=some lc->C≠B:=fun C lc e hC=>Ns
 have S5:∀C lc,β C=some lc->((A.put B (some blk')).get C).isSome=true->(A.get C).isSome=true:=fun C lc e h=>by
  grind [hk,Option.isSome_iff_exists]
 refine⟨h.below,h.ft,fun C hC=> ?_,h.loc,fun C C' lc pV e e' eG ha kR=>h.inj C C' lc pV e e' eG (S5 C lc e ha) (S5 C' pV e' kR),fun C k lc fq e=>h.cont C k lc (p9 C (ne C lc e) k fq) e,h.jn,h.dB,fun C lc k hG e fq hs=>h.sep C lc k hG e (p9 C (ne C lc e) k fq) hs,h.dX,fun C k fq=> ?_,h.iG,h.lay,h.xg,h.jM,h.zo,fun b hh hy=>⟨(h.dP b hh hy).1,(h.dP b hh hy).2.1,(h.dP b hh hy).2.2.1,fun C lc e ha=>(h.dP b hh hy).2.2.2 C lc e (S5 C lc e ha)⟩⟩
 ·have My:A.next<=C:=hC
  grind [hk,A.gd,h.du]
 grind [A.gd,h.own]
section
variable(ok:E.Ok P)
def Up(w0 w:World)(G:GP)(β:ai)(A:AW)(v u:xM)(A':AW):Prop:=
 ∃β',Inv w0 G β' A' w/\β.grow β' A.next/\A'.next=A.next/\∀eQ,β'.grow eQ A.next->∀v',aj eQ v v'->aj eQ u v'
def bE3(w0 w:World)(G:GP)(β:ai)(A:AW)(vs us:C3)(A':AW):Prop:=
 ∃β',Inv w0 G β' A' w/\β.grow β' A.next/\A'.next=A.next/\us.length=vs.length/\∀eQ,β'.grow eQ A.next->∀l',aZ eQ vs l'->aZ eQ us l'
theorem OJ{ih:xM->AW->Im}(eA:∀v A u A' β,ih v A=some (u,A')->Inv w0 G β A w->Up w0 w G β A v u A'):∀(l:C3) (A:AW) (us:C3) (A':AW) (β:ai),nL ih l A=some (us,A')->Inv w0 G β A w->bE3 w0 w G β A l us A'
 |[],A,us,A',β,h,inv=>by
  cases h;exact⟨β,inv,ai.dg _ _,rfl,rfl,fun _ _ _ h=>h⟩
 |v::l,A,us,A',β,h,inv=>by
  have h':(match ih v A with|some (u,A1)=>(match nL ih l A1 with|some (us,A2)=>some (u::us,A2)|none=>none)|none=>none)=some (us,A'):=h;split at h'
  ·rename_i u A1 h1;split at h'
   ·rename_i gC A2 h2;cases h';obtain⟨aK,i1,g1,n1,f1⟩:=eA v A u A1 β h1 inv;obtain⟨cY,i2,g2,n2,e2,f2⟩:=OJ eA l A1 gC A' aK h2 i1;rw[n1] at g2 f2;refine⟨cY,i2,ai.iz g1 g2 (xk _),n2.trans n1,by simp[e2],fun eQ hg l' hl=> ?_⟩;obtain⟨v',r',rfl,hv,hr⟩:=hl.pu;exact(f2 eQ hg r' hr).cons (f1 eQ (ai.iz g2 hg (xk _)) v' hv)
   ·cases h'
  ·cases h'
theorem jO{c:Nat}(h:iF δ (.chan (some (c+1)))=some d):δ c=some d/\d.cell=true:=by
 have h':(δ c).bind (fun x=>if x.cell then some x else none)=some d:=h
 grind [xr]
theorem UN(h:JA A B=some A'):∃cs es ex ro ty,A.get B=some ⟨.cells cs,es,ex,ro,ty⟩/\A'=A.put B (some ⟨.cells cs,es,ex,true,ty⟩):=by
 unfold JA at h
 grind
include ok in
theorem yi:∀(n:Nat) (v:xM) (A:AW) (u:xM) (A':AW) (β:ai),lL E.G.n n v A=some (u,A')->Inv w0 E.G β A w->Up w0 w E.G β A v u A'
 |0,v,A,u,A',β,h,inv=>by
  have h':bs (lI v) (some (v,A)) none=some (u,A'):=h;replace h':=aC h';rcases h' with⟨_,h'⟩|⟨_,h'⟩<;>cases h'
  exact⟨β,inv,ai.dg _ _,rfl,fun _ _ _ h=>h⟩
 |n+1,v,A,u,A',β,h,inv=>by
  have h':bs (lI v) (some (v,A)) (DU E.G.n (lL E.G.n n) v A)=some (u,A'):=h;clear h;replace h':=aC h';rcases h' with⟨_,h'⟩|⟨dw,h'⟩
  ·cases h';exact⟨β,inv,ai.dg _ _,rfl,fun _ _ _ h=>h⟩
  clear dw;have IH:=OJ (w0:=w0) (w:=w) (G:=E.G) (fun v A u A' β h i=>yi n v A u A' β h i);unfold DU at h';split at h'
  ·rename_i B c0;split at h'
   ·rename_i c es ex ro ty hg;replace h':=aC h';rcases h' with⟨hG,h'⟩|⟨_,h'⟩
    ·replace h':=aC h';rcases h' with⟨hs,h'⟩|⟨_,h'⟩<;>cases h'
     have uJ:=xh hG;have nU:B<A.next:=Nat.lt_of_not_le fun jv=>by grind [inv.du]
     unfold fB at hs;split at hs
     ·rename_i c1;have ho:=inv.own B _ hg;obtain⟨rows,hd,ho⟩:=ho;have Mr:=jO (δ:=β.d) (d:= .sl rows) (by exact hd);rcases ho with⟨gp,ho⟩|⟨l,cap,hl,ho,h1,h2,h3⟩
      ·cases hl:β B with
       |none=>
        refine⟨β,inv.Gg hg hl (by grind [jA,inv.own]),ai.dg _ _,rfl,fun eQ gx v' hv=> ?_⟩;cases hv with
        |own _ _ dZ a cap jg ha fJ=>
         rw[gx.o B nU,ho] at jg;have wu:=xC jg;injection wu with q1 q2 q3;have:dZ=[]:=xE.1 q2.symm;subst q1;subst q3;subst this;refine .sym c1 (.sl rows) _ (by grind [gx.d]) rfl ?_;rw[gp];exact .qC
       |some l=>
        obtain⟨aB,P8,k1,k2,k3,k4,k5,k6,k7⟩:=inv.cont B _ l hg hl;obtain⟨i1,g1⟩:=inv.still hg (.inr ⟨_,rfl⟩) uJ hl k1;refine⟨β.qB l.b aB,i1,g1 _,rfl,fun eQ gx v' hv=> ?_⟩;cases hv with
        |own _ _ dZ a cap jg ha fJ=>
         have e1:=gx.o B nU;have e2:(β.qB l.b aB).o B=some (.slice none 0 0):=ho;rw[e1,e2] at jg;have wu:=xC jg;injection wu with q1 q2 q3;have:dZ=[]:=xE.1 q2.symm;subst q1;subst q3;subst this;refine .sym c1 (.sl rows) _ (by rw[gx.d];exact Mr.1) rfl ?_;rw[gp];exact .qC
      ·obtain⟨aB,P8,k1,k2,k3,k4,k5,k6,k7⟩:=inv.cont B _ l hg hl;have Bu:(D.sl rows)= .sl P8:=xC (hd.symm.trans k3);cases Bu;obtain⟨i1,g1⟩:=inv.still hg (.inr ⟨_,rfl⟩) uJ hl k1;refine⟨β.qB l.b aB,i1,g1 _,rfl,fun eQ gx v' hv=> ?_⟩;cases hv with
       |own _ _ dZ a uf jg ha fJ=>
        have e1:=gx.o B nU;have e2:(β.qB l.b aB).o B=some (.slice (some ⟨l.b,l.d,none⟩) rows.length cap):=ho;rw[e1,e2] at jg;have wu:=xC jg;injection wu with q1 q2 q3;subst q1;subst q3;rw[<-q2];refine .sym c1 (.sl rows) _ (by rw[gx.d];exact Mr.1) rfl ?_;have hz:eQ.z l.b=some aB:=gx.z _ _ (by rw[ai.vw,if_pos rfl]);by_cases bo:rows=[]
        ·rw[bo];exact .m8 _ _
        ·refine .sl rows l.es l.b l.d _ aB hz bo k5 h1 Ns fun i row j d v hi hj dJ=> ?_
         obtain⟨v2,w1,w2⟩:=k7 i row j d hi hj;rw[dJ] at w1;cases w1;exact(w2.mono (g1 0).z).mono gx.z
     ·cases hs
    ·cases h'
   ·cases h'
  ·rename_i B o k cp;split at h'
   ·rename_i cs es ex ro ty hg;split at h'
    ·rename_i l hl;split at h'
     ·rename_i us A1 hf;split at h'
      ·rename_i u2 A2 eC;split at h'
       ·rename_i A3 bk;replace h':=aC h';rcases h' with⟨hG,h'⟩|⟨_,h'⟩<;>cases h'
        have uJ:=xh hG;obtain⟨nd,r,c,ht,eN,ez,gu,rfl,rfl⟩:=nW eC;obtain⟨EN,es2,wJ,LW,pQ,gx,rfl⟩:=UN bk;obtain⟨aK,i1,g1,n1,e1,f1⟩:=IH l A us A1 β hf inv;have i2:=i1.pop (r:=r) (fun x hx=>Ns);have nU:B<A.next:=Nat.lt_of_not_le fun jv=>by grind [inv.du]
        have hq:bY aK.d nd:=ok.q _ _ (i1.dX nd Ns);unfold bY at hq;rw[eN] at hq;obtain⟨ds,d,q1,q2,q3⟩:=hq;rw[ez] at q1;rw[gu] at q2;obtain⟨q4,q5⟩:=jO q2;have aJ:(if ds.length=k*es then(tH es k ds).map D.sl else none)=some d:=q3;split at aJ
        ·rename_i l5;obtain⟨rows,iE,rfl⟩:=xp.1 aJ;obtain⟨r1,r2,r3,r4⟩:=MQ iE;cases j5:aK B with
         |none=>
          have AY:=i2.Gg (blk':=⟨.cells EN,es2,wJ,true,pQ⟩) gx j5 trivial;refine⟨aK,AY,g1,n1,fun eQ pZ v' hv=> ?_⟩;cases hv with
          |slice _ _ _ _ c' lc eK hn hc he=>
           grind [pZ.f]
          |empty o2 a' c'=>
           have lq:rows=[]:=xE.1 r1;refine .sym c (.sl rows) _ (by rw[pZ.d];exact q4) rfl ?_;rw[lq];exact .m8 _ _
         |some lB=>
          obtain⟨aB,e0,fz,k1,k2,k3,k4,k5,k6,k7⟩:=i2.cont B _ lB gx j5;obtain⟨i3,g3⟩:=i2.still gx (.inl ⟨_,rfl⟩) uJ j5 k1;have Lf:β B=some lB:=by rw[<-g1.f B nU];exact j5
          obtain⟨bD4,e00,fz0,Hz,k02,k03,k04,k05,k06,k07⟩:=inv.cont B _ lB hg Lf;rw[k1] at Hz;cases Hz;obtain⟨l',w1,w2,w3⟩:=Cc inv (show jP A B=some cs by grind [jP]) Lf o _ l hl;refine⟨aK.qB lB.b aB,i3,ai.iz g1 (g3 _) (xk _),n1,fun eQ pZ v' hv=> ?_⟩;have hz:eQ.z lB.b=some aB:=pZ.z _ _ (by rw[ai.vw,if_pos rfl]);have vN:aK.grow eQ A.next:=ai.iz (g3 _) pZ (xk _);have aN:β.le eQ:=inv.gy (ai.iz g1 vN (xk _));have iX:=f1 eQ vN l' (w1.mono aN);have Mr:eQ.d=aK.d:=vN.d;cases hv with
          |slice _ _ _ _ c' lc eK hn hc he=>
           have sA:aK B=some lc:=by rw[<-vN.f B nU];exact eK
           rw[j5] at sA;cases sA;refine .sym c (.sl rows) _ Ns rfl ?_;by_cases bo:rows=[]
           ·have:k=0:=by rw[<-r1,bo];rfl
            subst this;rw[bo];exact .m8 _ _
           ·have S4:lB.es=es:=k07.1;have hRd:Rd eQ.z (.sl rows) (.slice (some ⟨lB.b,lB.d+o,none⟩) rows.length c'):=by
             refine .sl rows es lB.b (lB.d+o) c' aB hz bo r2 MK Ns fun i row j d v hi hj dJ=> ?_
             have hd:=r4 i row j d hi hj;have gw:i*es+j<us.length:=by rw[<-pz q1];exact(xe.1 hd).1
             have oD:i*es+j<l'.length:=by rw[<-iX.1];exact gw
             have iP:=w3 (i*es+j) _ (xc oD);rw[cell_of_row w lB.b _ aB e0 fz k1,dJ] at iP;cases iP;exact fx (β:=eQ) (by grind [nX,xc]) (iX.2 _ _ _ (xc gw) (xc oD))
            grind
          |empty o2 a' c'=>
           have lq:rows=[]:=xE.1 r1;refine .sym c (.sl rows) _ Ns rfl ?_;rw[lq];exact .m8 _ _
        ·cases aJ
       ·cases h'
      ·cases h'
     ·cases h'
    ·cases h'
   ·cases h'
  ·rename_i B o;split at h'
   ·rename_i cs es ex ro ty hg;split at h'
    ·rename_i us A1 hf;split at h'
     ·rename_i u2 A2 eC;split at h'
      ·rename_i A3 bk;replace h':=aC h';rcases h' with⟨hG,h'⟩|⟨_,h'⟩<;>cases h'
       have uJ:=xh hG;obtain⟨nd,r,c,ht,eN,ez,gu,rfl,rfl⟩:=nW eC;obtain⟨EN,es2,wJ,LW,pQ,gx,rfl⟩:=UN bk;obtain⟨aK,i1,g1,n1,e1,f1⟩:=IH cs A us A1 β hf inv;have i2:=i1.pop (r:=r) (fun x hx=>Ns);have nU:B<A.next:=Nat.lt_of_not_le fun jv=>by grind [inv.du]
       have hq:bY aK.d nd:=ok.q _ _ (i1.dX nd Ns);unfold bY at hq;rw[eN] at hq;obtain⟨ds,d,q1,q2,q3⟩:=hq;rw[ez] at q1;rw[gu] at q2;obtain⟨q4,q5⟩:=jO q2;have aJ:some (D.ptr ds o)=some d:=q3;cases aJ;cases j5:aK B with
       |none=>
        have AY:=i2.Gg (blk':=⟨.cells EN,es2,wJ,true,pQ⟩) gx j5 trivial;refine⟨aK,AY,g1,n1,fun eQ pZ v' hv=> ?_⟩;cases hv with
        |ptr _ _ lc eK=>grind [pZ.f]
       |some lB=>
        obtain⟨aB,e0,fz,k1,k2,k3,k4,k5,k6,k7⟩:=i2.cont B _ lB gx j5;obtain⟨i3,g3⟩:=i2.still gx (.inl ⟨_,rfl⟩) uJ j5 k1;have Lf:β B=some lB:=by rw[<-g1.f B nU];exact j5
        obtain⟨bD4,e00,fz0,Hz,k02,k03,k04,k05,k06,k07⟩:=inv.cont B _ lB hg Lf;rw[k1] at Hz;cases Hz;refine⟨aK.qB lB.b aB,i3,ai.iz g1 (g3 _) (xk _),n1,fun eQ pZ v' hv=> ?_⟩;have hz:eQ.z lB.b=some aB:=pZ.z _ _ (by rw[ai.vw,if_pos rfl]);have vN:aK.grow eQ A.next:=ai.iz (g3 _) pZ (xk _);have aN:β.le eQ:=inv.gy (ai.iz g1 vN (xk _));have Mr:eQ.d=aK.d:=vN.d;have l5:=pz q1;cases hv with
        |ptr _ _ lc eK=>
         have sA:aK B=some lc:=by rw[<-vN.f B nU];exact eK
         rw[j5] at sA;cases sA;refine .sym c (.ptr ds o) _ Ns rfl ?_
         let l':=(List.range cs.length).map fun j=>aB.getD (lB.d+j) undef
         have fG:∀j,j<cs.length->l'[j]? =some (aB.getD (lB.d+j) undef):=fun j hj=>by
          grind
         have iX:=f1 eQ vN l' ⟨by simp[l'],fun j v v' hv ee=>by
          have hj:=(xe.1 hv).1;rw[fG j hj] at ee;cases ee;obtain⟨v2,w1,w2⟩:=k04 j v hv;have:aB.getD (lB.d+j) undef=v2:=by rw[Array.getD_eq_getD_getElem?,w1];rfl
          grind [w2.mono]⟩
         refine .ptr ds o lB.b lB.d aB hz Ns fun j d v hj dJ=> ?_
         have ju:j<us.length:=by rw[<-l5];exact(xe.1 hj).1
         have Td:l'[j]? =some v:=by
          rw[fG j MK,Array.getD_eq_getD_getElem?,dJ];rfl
         exact fx (β:=eQ) (by grind [nX,xc]) (iX.2 _ _ _ (xc ju) Td)
      ·cases h'
     ·cases h'
    ·cases h'
   ·cases h'
  ·rename_i l;split at h'
   ·rename_i us A1 hf;cases h';obtain⟨aK,i1,g1,n1,e1,f1⟩:=IH l A us A' β hf inv;refine⟨aK,i1,g1,n1,fun eQ pZ v' hv=> ?_⟩;cases hv with
    |agg _ p' hp h2=>exact aj.mU (f1 eQ pZ p' ⟨hp,h2⟩)
   ·cases h'
  ·rename_i l;split at h'
   ·rename_i us A1 hf;cases h';obtain⟨aK,i1,g1,n1,e1,f1⟩:=IH l A us A' β hf inv;refine⟨aK,i1,g1,n1,fun eQ pZ v' hv=> ?_⟩;cases hv with
    |tuple _ p' hp h2=>exact aj.rK (f1 eQ pZ p' ⟨hp,h2⟩)
   ·cases h'
  ·cases h'
end
def ai.mj(β:ai)(B:Nat)(v:xM):ai:={β with o:=fun X=>if X=B then some v else β.o X}
theorem ai.WW(v:xM)(h:β.o B=none):β.le (β.mj B v):=
 ⟨fun _ _ e=>e,fun _ _ e=>e,fun X u e=>by
  show(if X=B then some v else β.o X)=some u
  grind,rfl,rfl⟩
theorem ai.zE(β:ai)(B:Nat)(v:xM):β.grow (β.mj B v) B:=
 ⟨fun _ _=>rfl,fun _ _ e=>e,fun X hX=>by show(if X=B then some v else β.o X)=β.o X;grind,rfl,rfl⟩
theorem Inv.relabel(h:Inv w0 G β A w){k:aG}{v:xM}(hk:A.get B=some k)(hB:B<A.next)(ho:β.o B=none)(hs:k.still=false)
 (iS:∀l,β B=some l->gB (β.mj B v) l blk' w.heap[l.b]?) (lK:jA (β.mj B v) B blk'):Inv w0 G (β.mj B v) (A.put B (some blk')) w:=by
 have aN:=ai.WW (β:=β) v ho;have p9:∀D,((A.put B (some blk')).get D).isSome=true->(A.get D).isSome=true:=fun D h=>by
  grind [hk,A.gd]
 refine⟨h.below,h.ft,fun C hC=> ?_,h.loc,fun C C' lc pV e e' eG ha kR=>h.inj C C' lc pV e e' eG (p9 C ha) (p9 C' kR),fun C kk lc fq e=> ?_,h.jn,h.dB,fun C lc kk hG e fq jZ=> ?_,h.dX,fun C kk fq=> ?_,fun C u e=> ?_,h.lay,h.xg,h.jM,h.zo,fun b hh hy=>⟨(h.dP b hh hy).1,(h.dP b hh hy).2.1,(h.dP b hh hy).2.2.1,fun C lc e ha=>(h.dP b hh hy).2.2.2 C lc e (p9 C ha)⟩⟩
 ·have My:A.next<=C:=hC
  grind [A.gd,h.du]
 ·rcases A.gd B (some blk') C with⟨e2,e3⟩|⟨e2,_⟩|⟨e2,_⟩
  ·subst e3;rw[e2] at fq;cases fq;exact iS lc e
  ·grind
  ·rw[e2] at fq;exact(h.cont C kk lc fq e).mono aN
 ·rcases A.gd B (some blk') C with⟨e2,e3⟩|⟨e2,_⟩|⟨e2,_⟩
  ·subst e3;exact h.sep C lc k hG e hk hs
  ·grind
  ·rw[e2] at fq;exact h.sep C lc kk hG e fq jZ
 ·rcases A.gd B (some blk') C with⟨e2,e3⟩|⟨e2,_⟩|⟨e2,_⟩
  ·grind
  ·grind
  ·rw[e2] at fq;exact(h.own C kk fq).mono aN
 ·have e':(if C=B then some v else β.o C)=some u:=e;by_cases hC:C=B
  ·show C<A.next
   grind
  ·rw[if_neg hC] at e';exact h.iG C u e'
def QV(G:Nat)(es:Nat)(e:xN)(A:AW)(s:xM):Option (xM×AW×Option Nat):=
 match s with
 | .slice none 0 0=>some (.slice none 0 0,A,none)
 | .iface B (.chan (some (_+1)))=>match A.get B with
  |some ⟨.own c,ae,_,false,ty⟩=>bs (Nat.beq es ae&&Nat.beq ty e&&Nat.ble G B) (some (c,A,some B)) none
  |_=>none
 | .slice (some ⟨B,o,none⟩) n _=>match A.get B with
  |some ⟨.cells cs,ae,_,_,_⟩=>match pE (Nat.mul n ae) (ra o cs) with
   |some l=>match nL (lL G 3) l A with
    |some (us,A1)=>match nJ A1 (.dB ae n) us with
     |some (u,A2)=>match A2.get B with
      |some ⟨.cells _,es2,_,false,ty⟩=>bs (Nat.beq es es2&&Nat.beq es ae&&Nat.beq ty e&&Nat.ble G B&&bs (Nat.beq B Dp) false true) (some (u,A2,some B)) none
      |_=>none
     |none=>none
    |none=>none
   |none=>none
  |_=>none
 |_=>none
def Jp(E:az)(t:xN):Option (Row×xN):=
 match E.ti.get none t with
 |some ⟨.slice e,_,_,_,_⟩=>match E.ti.get none e with
  |some re=>bs (re.uj&&Nat.beq (bT re.zero) re.size&&Nat.ble 1 re.size&&Nat.blt e jN) (some (re,e)) none
  |none=>none
 |_=>none
def J8(E:az)(tx:xN):Bool:=match E.ti.get none tx with|some ⟨.slice _,_,_,_,_⟩=>true|some ⟨.string,_,_,_,_⟩=>true|_=>false
def Eg(k:Ji)(A:AW):AW:=match k with|some B=>A.put B none|none=>A
def ye(A:AW)(kill:Ji)(u:xM)(es:Nat)(e:xN):Option AW:=
 match((Eg kill A).add ⟨.cells [],es,false,false,e⟩).get A.next with
 |some ⟨.cells _,_,_,false,_⟩=>some (((Eg kill A).add ⟨.cells [],es,false,false,e⟩).put A.next (some ⟨.own u,es,false,false,e⟩))
 |_=>none
def SH(E:az)(A:AW)(t tx:xN)(s x:xM):Im:=
 match Jp E t with
 |some (re,e)=>bs (J8 E tx) (match QV E.G.n re.size e A s with
  |some (c,A1,kill)=>match lL E.G.n 4 x A1 with
   |some (y,A2)=>match nJ A2 (.app re.size re.bytes) [c,y] with
    |some (u,A3)=>bs (match kill with|some B=>(match A3.get B with|some ⟨_,_,_,false,_⟩=>true|_=>false)|none=>true) (match ye A3 kill u re.size e with|some A4=>some (.iface A3.next u,A4)|none=>none) none
    |none=>none
   |none=>none
  |none=>none) none
 |none=>none
section
theorem Inv.Ot(h:Inv w0 E.G β A w)(blk:aG)(hp:vB blk:=by intro c h;cases h):Inv w0 E.G β (A.add blk) w:=by
 have hn:A.get A.next=none:=h.du _ (xk _);have hb:β A.next=none:=by
  cases hc:β A.next with
  |none=>rfl
  |some l=>exact absurd (h.ft _ l hc) (Nat.lt_irrefl _)
 have gX:∀B l,β B=some l->(A.add blk).get B=A.get B:=fun B l e=>by
  grind [A.mR]
 refine⟨h.below,fun B l e=>Nat.lt_succ_of_lt (h.ft B l e),fun B hB=> ?_,h.loc,fun B B' l l' e e' eG ha kR=> ?_,fun B k l hk e=> ?_,h.jn,h.dB,fun B l kb hG e ha hs=> ?_,h.dX,fun B k hk=> ?_,fun B v e=>Nat.lt_succ_of_lt (h.iG B v e),h.lay,h.xg,h.jM,h.zo,fun b hh hy=>⟨(h.dP b hh hy).1,(h.dP b hh hy).2.1,(h.dP b hh hy).2.2.1,fun C lc e ha=>(h.dP b hh hy).2.2.2 C lc e Ns⟩⟩
 ·have uK:A.next+1<=B:=hB
  grind [A.mR,h.du]
 ·grind [h.inj]
 ·grind [hk,h.cont]
 ·grind [h.sep]
 grind [hk,A.mR,hp.ok,h.own]
end
section
variable(ok:E.Ok P)
include ok in
theorem au9{re:Row}(h:Jp E t=some (re,e)):∃ie z,P.underlying t=some (.slice e)/\P.info? e=some ie/\ie.size=re.size/\ie.bytes=re.bytes/\ie.zero=some z/\z.cells.size=re.size/\1<=re.size/\e≠jN:=by
 unfold Jp at h;split at h
 ·rename_i e0 _ _ _ _ hr;split at h
  ·rename_i r fX;replace h:=aC h;rcases h with⟨hb,h⟩|⟨_,h⟩
   ·cases h;simp only [xf,eH] at hb;obtain⟨⟨⟨hz,hl⟩,h1⟩,h4⟩:=hb;obtain⟨_,ie,jK,hs,wE,fV⟩:=ok.ti e re fX;obtain⟨z,ot,L7⟩:=fV hz;have:e<jN:=xh h4;exact⟨ie,z,(ok.ti t _ hr).1,jK,hs,wE,ot,by simp_all,xh h1,Nat.ne_of_lt this⟩
   ·cases h
  ·cases h
 ·cases h
theorem X9{z:GU}(bk:vq z w){es:Nat}{tx:xN}(wk:(∃e',P.underlying tx=some (.slice e'))\/P.underlying tx=some .string)(dU:1<=es){rows:Ca}(h:Gi es d=some rows)(hx:Rd z d x'):
 ∃dI,Src P es tx x' rows.length dI w/\dI.length=rows.length*es/\∀(i:Nat) (row:Di) (j:Nat) (d:D),rows[i]? =some row->row[j]? =some d->∃v,dI[i*es+j]? =some v/\Rd z d v:=by
 unfold Gi at h;split at h
 ·rename_i iC;split at h
  ·rename_i fS;cases h;rw[List.all_eq_true] at fS;have eS:∀row∈rows,row.length=es/\∀d∈row,d.cell=true:=fun row hr=>by
    grind
   cases hx with
   |qC=>exact⟨[],⟨wk,fun _=>rfl,run_firstCells_none w es 0 0 0,run_firstCells_none w.drew es 0 0 0,NS,fun _ h=>by cases h⟩,NS,fun i row j d hi=>by simp at hi⟩
   |m8 a c=>exact⟨[],⟨wk,fun _=>rfl,run_firstCells_some w es 0 a 0 c [] NS (fun j u hu=>by simp at hu),run_firstCells_some w.drew es 0 a 0 c [] NS (fun j u hu=>by simp at hu),NS,fun u hu=>by cases hu⟩,NS,fun i row j d hi=>by simp at hi⟩
   |sl _ fZ b o c cells hz bo bA1 hc hs hh=>
    have e0:fZ=es:=by
     obtain⟨r0,gp⟩:=List.exists_mem_of_ne_nil rows bo;rw[<-bA1 r0 gp];exact(eS r0 gp).1
    subst e0;obtain⟨e1,fz,hb⟩:=bk b cells hz
    let dI:=(List.range (rows.length*fZ)).map fun j=>cells.getD (o+j) undef
    have hn:∀j,j<rows.length*fZ->dI[j]? =some (cells.getD (o+j) undef):=fun j hj=>by
     grind
    have aE:dI.length=rows.length*fZ:=by simp[dI]
    have aN:rows.length*fZ<=c*fZ:=xD _ hc;have iP:∀j,j<rows.length*fZ->cells[o+j]? =some (cells.getD (o+j) undef):=fun j hj=>by
     have:o+j<cells.size:=MK
     simp[this]
    have DM:∀j,j<rows.length*fZ->∃row d,rows[j/fZ]? =some row/\row[j%fZ]? =some d/\d.cell=true:=fun j hj=>by
     have h1:j/fZ<rows.length:=by rw[Nat.div_lt_iff_lt_mul MK];exact hj
     have h2:j%fZ<fZ:=Nat.mod_lt _ MK;have h3:=eS _ (List.getElem_mem h1);have h4:j%fZ<(rows[j/fZ]).length:=by rw[h3.1];exact h2
     exact⟨rows[j/fZ],(rows[j/fZ])[j%fZ],xc h1,xc h4,h3.2 _ (List.getElem_mem h4)⟩
    have ao:∀j u,dI[j]? =some u->w.cell? ((⟨b,o,none⟩:Addr).add j)=some u:=fun j u hu=>by
     have hj:j<rows.length*fZ:=by rw[<-aE];exact(xe.1 hu).1
     grind [Addr.add_mid,cell_of_row]
    refine⟨dI,⟨wk,fun _=>rfl,run_firstCells_some w fZ rows.length _ rows.length c dI aE ao,run_firstCells_some w.drew fZ rows.length _ rows.length c dI aE (by simpa using ao),aE,fun u hu=> ?_⟩,aE,fun i row j d hi hj=> ?_⟩
    ·obtain⟨j,hj,rfl⟩:=List.getElem_of_mem hu;have qG:j<rows.length*fZ:=by rw[<-aE];exact hj
     obtain⟨row,d,q1,q2,q3⟩:=DM j qG;have:=hh (j/fZ) row (j%fZ) d (cells.getD (o+j) undef) q1 q2 (by
      rw[show o+(j/fZ*fZ+j%fZ)=o+j by rw[Nat.mul_comm];rw[Nat.div_add_mod]]
      grind)
     have e9:dI[j]=cells.getD (o+j) undef:=by
      have:=hn j qG;rw[xc hj] at this;exact xC this
     rw[e9];exact(Fv this q3).2
    ·have gw:=(xe.1 hi).1;have ju:j<fZ:=by rw[<-(eS row (xu hi)).1];exact(xe.1 hj).1
     have bm:i*fZ+j<rows.length*fZ:=by
      have:(i+1)*fZ<=rows.length*fZ:=xD _ gw;rw[Nat.add_mul] at this;omega
     grind
  ·cases h
 ·rename_i l;split at h
  ·rename_i ba;subst ba;cases h;cases hx;refine⟨byteCells ⟨⟨l⟩⟩,?_,?_,fun i row j d hi hj=> ?_⟩
   ·rw[xm];exact⟨wk,fun _=>rfl,firstCells_string ⟨⟨l⟩⟩ w,firstCells_string ⟨⟨l⟩⟩ w.drew,by rw[byteCells_length,Nat.mul_one];rfl,fun u hu=>by
     obtain⟨_,_,rfl⟩:=xJ.1 hu;rfl⟩
   ·simp[byteCells]
   ·rw[xx] at hi;obtain⟨b,hb,rfl⟩:=xp.1 hi;have jJ:j=0:=by have:=(xe.1 hj).1;simp at this;exact this
    subst jJ;simp at hj;subst hj;refine⟨.int .u8 (b.toNat:Nat),?_,.int _ _⟩
    grind [byteCells]
  ·cases h
 ·cases h
theorem lE{v:xM}(h:aX δ v=some d):bR δ v=some d:=by
 unfold bR;split
 ·cases h
 ·exact h
def bg7(G:Nat)(β:ai)(A:AW)(w:World)(s':xM)(es:Nat)(e:xN)(kill:Ji)(rows:Ca):Prop:=
 ∃a cap,s'= .slice a rows.length cap/\(∀row∈rows,row.length=es)/\
  ((a=none/\rows=[]/\cap=0)\/∃B l d0 aB,kill=some B/\β B=some l/\G<=B/\(∃blk,A.get B=some blk)/\a=some ⟨l.b,d0,none⟩/\w.heap[l.b]? =some (.cells aB e (0,0))/\aB.size=l.sz/\l.es=es/\l.d<=d0/\rows.length<=cap/\d0+cap*es<=l.sz/\
   ∀(i:Nat) (row:Di) (j:Nat) (d:D),rows[i]? =some row->row[j]? =some d->∃v,aB[d0+(i*es+j)]? =some v/\Rd β.z d v)
include ok in
theorem aT6{es:Nat}(Mq:e≠jN){A1:AW}{s s' c:xM}{kill:Ji}(h:QV E.G.n es e A s=some (c,A1,kill))(inv:Inv w0 E.G β A w)(hs:aj β s s'):
 ∃aK rows,Inv w0 E.G aK A1 w/\β.grow aK A.next/\A1.next=A.next/\aX aK.d c=some (.sl rows)/\bg7 E.G.n aK A1 w s' es e kill rows:=by
 unfold QV at h;split at h
 ·cases h;cases hs;exact⟨β,[],inv,ai.dg _ _,rfl,rfl,none,0,rfl,(fun _ h=>by cases h),.inl ⟨rfl,rfl,rfl⟩⟩
 ·rename_i B c1;split at h
  ·rename_i c2 ae ex ty hg;replace h:=aC h;rcases h with⟨hb,h⟩|⟨_,h⟩<;>cases h
   simp only [xf] at hb;obtain⟨⟨h1,h2⟩,h3⟩:=hb;have e1:=xb h1;have e2:=xb h2;have e3:=xh h3;subst e1;subst e2;obtain⟨rows,hd,ho⟩:=inv.own B _ hg;refine⟨β,rows,inv,ai.dg _ _,rfl,hd,?_⟩;cases hs with
   |own _ _ dZ a cap jg ha fJ=>
    rcases ho with⟨gp,ho⟩|⟨l,bD5,hl,ho,q1,q2,q3⟩
    ·rw[ho] at jg;have wu:=xC jg;injection wu with r1 r2 r3;refine⟨none,0,Ns,(fun row hr=>Ns),.inl ⟨rfl,gp,rfl⟩⟩
    ·rw[ho] at jg;have wu:=xC jg;injection wu with r1 r2 r3;obtain⟨aB,Gj,k1,k2,k3,k4,k5,k6,k7⟩:=inv.cont B _ l hg hl;have Bu:(D.sl rows)= .sl Gj:=xC (hd.symm.trans k3);cases Bu;have uv:l.es=es:=k4;refine⟨some ⟨l.b,l.d,none⟩,bD5,Ns,(fun row hr=>Ns),.inr ⟨B,l,l.d,aB,rfl,hl,e3,⟨_,hg⟩,rfl,k1,k2,uv,xk _,q1,Ns,fun i row j d hi hj=>Ns⟩⟩
  ·cases h
 ·rename_i B o n cp;split at h
  ·rename_i cs ae ex ro ty hg;split at h
   ·rename_i l hl;split at h
    ·rename_i us A2 hf;split at h
     ·rename_i u A3 eC;split at h
      ·rename_i EN es2 wJ pQ gx;replace h:=aC h;rcases h with⟨hb,h⟩|⟨_,h⟩<;>cases h
       simp only [xf] at hb;obtain⟨⟨⟨⟨h1,h2⟩,h3⟩,h4⟩,h5⟩:=hb;have e1:=xb h1;have e2:=xb h2;have e3:=xb h3;have e4:=xh h4;subst e1;subst e2;subst e3;obtain⟨nd,r,c1,ht,eN,ez,gu,rfl,rfl⟩:=nW eC;obtain⟨aK,i1,g1,n1,el,f1⟩:=OJ (w0:=w0) (w:=w) (G:=E.G) (fun v A u A' β h i=>yi ok 3 v A u A' β h i) l A us A2 β hf inv;have i2:=i1.pop (r:=r) (fun x hx=>Ns);have nU:B<A.next:=Nat.lt_of_not_le fun jv=>by grind [inv.du]
       have hq:bY aK.d nd:=ok.q _ _ (i1.dX nd Ns);unfold bY at hq;rw[eN] at hq;obtain⟨ds,d,q1,q2,q3⟩:=hq;rw[ez] at q1;rw[gu] at q2;obtain⟨q4,q5⟩:=jO q2;have aJ:(if ds.length=n*es then(tH es n ds).map D.sl else none)=some d:=q3;split at aJ
       ·rename_i l5;obtain⟨rows,iE,rfl⟩:=xp.1 aJ;obtain⟨r1,r2,r3,r4⟩:=MQ iE;refine⟨aK,rows,i2,g1,n1,?_,?_⟩
        ·show(aK.d c1).bind _=_;rw[q4];rfl
        ·cases hs with
         |slice _ _ _ _ c' lB j5 hn hc he=>
          have af1:aK B=some lB:=by rw[g1.f B nU];exact j5
          obtain⟨aB,e0,fz,k1,k2,k3,k4,k5,k6,k7⟩:=i2.cont B _ lB gx af1;have nj:fz=(0,0):=k5 rfl;subst nj;have he0:e0=pQ:=k7.2 Mq;subst he0;have dU:lB.es=es:=k7.1;obtain⟨l',w1,w2,w3⟩:=Cc inv (show jP A B=some cs by grind [jP]) j5 o _ l hl;have aN:β.le aK:=inv.gy g1;have iX:=f1 aK (ai.dg _ _) l' (w1.mono aN);rw[<-r1] at hn⊢;refine⟨some ⟨lB.b,lB.d+o,none⟩,c',rfl,r2,.inr ⟨B,lB,lB.d+o,aB,rfl,af1,e4,⟨_,gx⟩,rfl,k1,k2,dU,MK,MK,Ns,fun i row j d hi hj=> ?_⟩⟩;have hd:=r4 i row j d hi hj;have gw:i*es+j<us.length:=by rw[<-pz q1];exact(xe.1 hd).1
          have oD:i*es+j<l'.length:=by rw[<-iX.1];exact gw
          have iP:=w3 (i*es+j) _ (xc oD);rw[cell_of_row w lB.b _ aB e0 (0,0) k1] at iP;exact⟨_,iP,fx (β:=aK) (nX q1 hd (xc gw)) (iX.2 _ _ _ (xc gw) (xc oD))⟩
         |empty o2 a' c'=>
          exact absurd h5 Pp
       ·cases aJ
      ·cases h
     ·cases h
    ·cases h
   ·cases h
  ·cases h
 ·cases h
include ok in
theorem aU2{tx:xN}{s s' x v:xM}(h:SH E A t tx s x=some (v,A'))(inv:Inv w0 E.G β A w)(hs:aj β s s')(hx:aj β x x'):jH w0 E.G β A ((Builtin.append_ #[t,tx] ty #[s',x']).run P w) v A'/\A.next<=A'.next:=by
 unfold SH at h;split at h;rotate_left
 ·cases h
 rename_i re e her;obtain⟨ie,z,hu,jK,mG,wE,hz,L6,h1,Mq⟩:=au9 ok her;replace h:=aC h;rcases h with⟨yL,h⟩|⟨_,h⟩;rotate_left
 ·cases h
 split at h;rotate_left
 ·cases h
 rename_i c A1 kill bo0;split at h;rotate_left
 ·cases h
 rename_i y A2 hfy;split at h;rotate_left
 ·cases h
 rename_i u A3 eC;replace h:=aC h;rcases h with⟨bz2,h⟩|⟨_,h⟩;rotate_left
 ·cases h
 split at h;rotate_left
 ·cases h
 rename_i A4 iT;cases h;obtain⟨aK,rows,i1,g1,n1,hdc,a,cap,rfl,ow,ba3⟩:=aT6 ok Mq bo0 inv hs;obtain⟨cY,i2,g2,n2,f2⟩:=yi ok (w0:=w0) (w:=w) 4 x A1 y A2 aK hfy i1;obtain⟨nd,r,cu,ht,eN,ez,gu,rfl,rfl⟩:=nW eC;have i3:=i2.pop (r:=r) (fun x hx=>Ns);rw[n1] at g2 n2;have g12:β.grow cY A.next:=ai.iz g1 g2 (xk _);have pX:aj cY y x':=f2 cY (ai.dg _ _) x' (hx.mono (inv.gy g12));have hq:bY cY.d nd:=ok.q _ _ (i2.dX nd Ns);unfold bY at hq;rw[eN] at hq;obtain⟨ds,d,q1,q2,q3⟩:=hq;rw[ez] at q1;rw[gu] at q2;obtain⟨q4,q5⟩:=jO q2;obtain⟨dc,dy,rfl,e1,e2⟩:=jj q1;rw[lE (show aX cY.d c=some (.sl rows) by grind [g2.d])] at e1;cases e1;have aJ:YM re.size re.bytes (.sl rows) dy=some d:=q3;obtain⟨nr,Lb,q6⟩:=xr.1 (show(Gi re.size dy).bind _=some d from aJ);split at q6;rotate_left
 ·cases q6
 rename_i jF;cases q6;unfold mX at jF;simp only [xf,decide_eq_true_iff] at jF;obtain⟨cr5,cr4⟩:=jF;have wk:(∃e',P.underlying tx=some (.slice e'))\/P.underlying tx=some .string:=by
  unfold J8 at yL;split at yL
  ·rename_i hr;exact .inl ⟨_,(ok.ti tx _ hr).1⟩
  ·rename_i hr;exact .inr (ok.ti tx _ hr).1
  ·cases yL
 obtain⟨dI,src,lj,aZ7⟩:=X9 i2.dB wk h1 Lb (fx e2 pX);rw[<-mG] at src;generalize Mz:Eg kill (A2.pop r)=Ak;have ik:Inv w0 E.G cY Ak w:=by
  rw[<-Mz];cases kill with
  |none=>exact i3
  |some B=>exact i3.kill B
 have RL:Ak.next=A.next:=by
  rw[<-Mz];cases kill with
  |none=>exact n2
  |some B=>exact n2
 have kP:(A2.pop r).next=Ak.next:=by rw[RL];exact n2
 unfold ye at iT;rw[Mz] at iT;split at iT;rotate_left
 ·cases iT
 rename_i T9 T6 T4 SP j6;cases iT;rw[kP] at j6⊢;have vO:∃blk,(Ak.add ⟨.cells [],re.size,false,false,e⟩).get Ak.next=some blk/\blk.still=false:=⟨_,j6,rfl⟩;have hAn:Ak.next<=((Ak.add ⟨.cells [],re.size,false,false,e⟩).put Ak.next (some ⟨.own (.chan (some (cu+1))),re.size,false,false,e⟩)).next:=Nat.le_succ _;have bV1:(rows++nr).length=rows.length+nr.length:=xa;have aa9:∀(io:ai) (w':World) (l2:Loc) (uf:Nat),Inv w0 E.G io (Ak.add ⟨.cells [],re.size,false,false,e⟩) w'->cY.grow io Ak.next->io Ak.next=some l2->io.o Ak.next=none->l2.es=re.size->(rows++nr).length<=uf->l2.d+uf*re.size<=l2.sz->
  (∃aB,w'.heap[l2.b]? =some (.cells aB e (0,0))/\aB.size=l2.sz/\∀(i:Nat) (row:Di) (j:Nat) (d:D),(rows++nr)[i]? =some row->row[j]? =some d->∃v,aB[l2.d+(i*re.size+j)]? =some v/\Rd io.z d v)->
  ∃Bl v',v'= .slice (some ⟨l2.b,l2.d,none⟩) (rows++nr).length uf/\aj Bl (.iface Ak.next (.chan (some (cu+1)))) v'/\Inv w0 E.G Bl ((Ak.add ⟨.cells [],re.size,false,false,e⟩).put Ak.next (some ⟨.own (.chan (some (cu+1))),re.size,false,false,e⟩)) w'/\β.grow Bl A.next:=fun io w' l2 uf iv g hb ho dU bM aV C9=>by
  obtain⟨blk,bX,bP⟩:=vO;have TB:io.d=cY.d:=g.d;have co4:∀row∈rows++nr,row.length=re.size:=fun row hr=>by
   rcases xF.1 hr with hr|hr
   ·grind
   ·unfold Gi at Lb
    grind
  have ii:∀(B:Nat) (v:xM),aX (io.mj B v).d (.chan (some (cu+1)))=some (.sl (rows++nr)):=fun B v=>by
   show((io.mj B v).d cu).bind _=_;have:(io.mj B v).d=cY.d:=TB
   grind
  obtain⟨aB,c1,c2,c3⟩:=C9;have qJ:=iv.relabel (B:=Ak.next) (blk':=⟨.own (.chan (some (cu+1))),re.size,false,false,e⟩) (v:= .slice (some ⟨l2.b,l2.d,none⟩) (rows++nr).length uf) bX (Nat.lt_succ_self _) ho bP (fun l hl=>by
   rw[hb] at hl;cases hl;refine⟨aB,rows++nr,c1,c2,ii _ _,dU,(fun row hr=>Ns),?_,fun i row j d hi hj=>by rw[dU];exact c3 i row j d hi hj⟩;rw[dU];have:(rows++nr).length*re.size<=uf*re.size:=xD _ bM;omega) ⟨rows++nr,ii _ _,.inr ⟨l2,uf,hb,by show(if Ak.next=Ak.next then _ else _)=_;grind,bM,Ns,dU⟩⟩
  refine⟨_,_,rfl,?_,qJ,?_⟩
  ·exact .own Ak.next cu (rows++nr) _ uf (by show(if Ak.next=Ak.next then _ else _)=_;grind) (.inr ⟨l2,hb,rfl⟩) (by show io.d cu=_;grind)
  ·rw[<-RL];exact ai.iz (ai.iz Ns g (xk _)) (ai.zE io Ak.next _) (xk _)
 refine⟨?_,Ns⟩;have uC:∀io:ai,cY.o=io.o->io.o Ak.next=none:=fun io e=>by
  rw[<-e];cases hq:cY.o Ak.next with
  |none=>rfl
  |some v=>have:=ik.iG _ _ hq;omega
 have YB:∀(io:ai) (aB:KB) (d0:Nat),(∀b c,cY.z b=some c->io.z b=some c)->(∀(i:Nat) (row:Di) (j:Nat) (d:D),rows[i]? =some row->row[j]? =some d->∃v,aB[d0+(i*re.size+j)]? =some v/\Rd io.z d v)->(∀j v,dI[j]? =some v->aB[d0+rows.length*re.size+j]? =some v)->
  ∀(i:Nat) (row:Di) (j:Nat) (d:D),(rows++nr)[i]? =some row->row[j]? =some d->∃v,aB[d0+(i*re.size+j)]? =some v/\Rd io.z d v:=fun io aB d0 hz ho hn i row j d hi hj=>by
  by_cases bm:i<rows.length
  ·rw[xw bm] at hi;exact ho i row j d hi hj
  ·rw[xq MK] at hi;obtain⟨v,v1,v2⟩:=aZ7 _ row j d hi hj;refine⟨v,?_,v2.mono hz⟩;have:=hn _ v v1;rw[show d0+rows.length*re.size+((i - rows.length)*re.size+j)=d0+(i*re.size+j) by
    have e7:rows.length*re.size+(i - rows.length)*re.size=i*re.size:=by rw[<-Nat.add_mul];congr 1;omega
    omega] at this
   exact this
 have f1':((rows.length+nr.length:Nat):Int)<=9223372036854775807:=MK
 have Gv:∀(pO:Option Addr) (eJ:C3),(Builtin.firstCells ie.size rows.length (.slice pO rows.length cap)).run P w.drew= .ok eJ.toArray w.drew->eJ.length=rows.length*re.size->cap<rows.length+nr.length->(∀(i:Nat) (row:Di) (j:Nat) (d:D),rows[i]? =some row->row[j]? =some d->∃v,eJ[i*re.size+j]? =some v/\Rd cY.z d v)->
  jH w0 E.G β A ((Builtin.append_ #[t,tx] ty #[.slice pO rows.length cap,x']).run P w) (.iface Ak.next (.chan (some (cu+1)))) ((Ak.add ⟨.cells [],re.size,false,false,e⟩).put Ak.next (some ⟨.own (.chan (some (cu+1))),re.size,false,false,e⟩)):=fun pO eJ kE mJ bm uB=>by
  have aW:=run_append_grow_src (P:=P) w t tx ty e ie z hu jK hz pO rows.length cap eJ kE x' nr.length dI src bm f1' (growslice_fits bm Ns);have jv:=grownCap_ge w (rows.length+nr.length) cap e;obtain⟨uM,s8⟩:=NX (E:=E) ik [] [] ((eJ++dI).toArray++Builtin.zeroCells z.cells (grownCap w (rows.length+nr.length) cap e - (rows.length+nr.length))).toList e re.size ((eJ++dI).toArray++Builtin.zeroCells z.cells (grownCap w (rows.length+nr.length) cap e - (rows.length+nr.length))) NS (fun β' hb=>aZ.nil β');have aV:((eJ++dI).toArray++Builtin.zeroCells z.cells (grownCap w (rows.length+nr.length) cap e - (rows.length+nr.length))).size=grownCap w (rows.length+nr.length) cap e*re.size:=by
   simp only [Array.size_append,List.size_toArray,xa,MM,L6,lj,mJ,<-Nat.add_mul]
   congr 1
   omega
  obtain⟨Bl,v',oL,uO,Ig,T7⟩:=aa9 _ _ ⟨w.heap.size,0,re.size,((eJ++dI).toArray++Builtin.zeroCells z.cells (grownCap w (rows.length+nr.length) cap e - (rows.length+nr.length))).size⟩ (grownCap w (rows.length+nr.length) cap e) uM s8 (j9 _ _ _) (uC _ rfl) rfl Ns Ns ⟨_,heap_alloc_new w.drew _,rfl,YB _ _ 0 (fun _ _ h=>h) (fun i row j d hi hj=>by
   obtain⟨v,v1,v2⟩:=uB i row j d hi hj;refine⟨v,?_,v2⟩;rw[Nat.zero_add,Array.getElem?_append_left (by have:=(xe.1 v1).1;simp;omega)];have:=(xe.1 v1).1;simp[xw this,v1]) (fun j v hj=>by
   have fH:=(xe.1 hj).1;rw[Nat.zero_add,Array.getElem?_append_left Of];rw[<-mJ];simp[xq,hj])⟩
  refine⟨Bl,v',_,?_,uO,Ig,T7⟩
  grind
 rcases ba3 with⟨rfl,rfl,rfl⟩|⟨B,l,d0,aB,bn3,hl,uJ,⟨ct1,bV3⟩,rfl,hh,df,cp4,uI,G9,jF,C9⟩
 ·by_cases sV:nr.length=0
  ·have DJ:nr=[]:=xE.1 sV;rw[DJ] at src;have aW:=EX (P:=P) (ty:=ty) hu jK src none 0 0 (xk _);have hr:=ik.Ot ⟨.cells [],re.size,false,false,e⟩;obtain⟨blk,bX,bP⟩:=vO;have ze:cY Ak.next=none:=by
    cases hc:cY Ak.next with
    |none=>rfl
    |some l=>exact absurd (ik.ft _ l hc) (Nat.lt_irrefl _)
   have qJ:=hr.relabel (B:=Ak.next) (blk':=⟨.own (.chan (some (cu+1))),re.size,false,false,e⟩) (v:= .slice none 0 0) bX (Nat.lt_succ_self _) (uC _ rfl) bP (fun l hl=>Ns)
    ⟨([]++nr),(by show((cY.mj Ak.next (.slice none 0 0)).d cu).bind _=_;have:(cY.mj Ak.next (.slice none 0 0)).d=cY.d:=rfl;grind),.inl ⟨DJ,by show(if Ak.next=Ak.next then _ else _)=_;grind⟩⟩
   refine⟨_,_,_,aW,?_,qJ,by rw[<-RL];exact ai.iz Ns (ai.zE cY Ak.next _) (xk _)⟩;have:=aj.own (β:=cY.mj Ak.next (.slice none 0 0)) Ak.next cu ([]++nr) none 0 (by show(if Ak.next=Ak.next then _ else _)=_;grind) (.inl ⟨rfl,DJ⟩) q4
   grind
  ·exact Gv none [] (run_firstCells_none w.drew ie.size 0 0 0) NS Of (fun i row j d hi=>by simp at hi)
 ·subst bn3;have nU:B<A.next:=by rw[<-n1];exact Nat.lt_of_not_le fun jv=>by grind [i1.du]
  have aL:cY B=some l:=by rw[g2.f B nU];exact hl
  have bB9:Ak=(A2.pop r).put B none:=Mz.symm;obtain⟨bD8,rA,bw6⟩:∃blk,(A2.pop r).get B=some blk/\blk.still=false:=by
   have fO:(match(A2.pop r).get B with|some ⟨_,_,_,false,_⟩=>true|_=>false)=true:=bz2
   grind [aG.still]
  have S7:cY.z l.b=none:=i3.sep B l bD8 uJ aL rA bw6;obtain⟨Qu,Qt⟩:=i3.loc B l aL;have jh:∀C lc,cY C=some lc->lc.b=l.b->Ak.get C=none:=fun C lc hC eG=>by
   rw[bB9];rcases(A2.pop r).gd B none C with⟨e1,_⟩|⟨e1,_⟩|⟨e1,bo⟩
   ·exact e1
   ·exact e1
   ·rw[e1];cases Mn:(A2.pop r).get C with
    |none=>rfl
    |some kk=>grind [absurd,i3.inj]
  have YA:∀(i:Nat) (row:Di) (j:Nat) (d:D),rows[i]? =some row->row[j]? =some d->∃v,aB[d0+(i*re.size+j)]? =some v/\Rd cY.z d v:=fun i row j d hi hj=>(C9 i row j d hi hj).imp fun v ⟨a,b⟩=>⟨a,b.mono g2.z⟩
  have Xv:∀(w':World) (vQ:KB),w.grownBy w' (some l.b)->w'.heap.size=w.heap.size->w'.heap[l.b]? =some (.cells vQ e (0,0))->vQ.size=aB.size->(∀j,j<rows.length*re.size->vQ[d0+j]? =aB[d0+j]?)->(∀j v,dI[j]? =some v->vQ[d0+rows.length*re.size+j]? =some v)->rows.length+nr.length<=cap->
   (Builtin.append_ #[t,tx] ty #[.slice (some ⟨l.b,d0,none⟩) rows.length cap,x']).run P w= .ok (.slice (some ⟨l.b,d0,none⟩) (rows.length+nr.length) cap) w'->
   jH w0 E.G β A ((Builtin.append_ #[t,tx] ty #[.slice (some ⟨l.b,d0,none⟩) rows.length cap,x']).run P w) (.iface Ak.next (.chan (some (cu+1)))) ((Ak.add ⟨.cells [],re.size,false,false,e⟩).put Ak.next (some ⟨.own (.chan (some (cu+1))),re.size,false,false,e⟩)):=fun w' vQ hw aV HP DR ho hn oX aW=>by
   obtain⟨uM,s8⟩:=Inv.QW (E:=E) ik (w':=w') ⟨l.b,d0,re.size,l.sz⟩ ⟨.cells [],re.size,false,false,e⟩ Qu (Qt.resolve_left MK) S7 (show cY.y l.b=none from i3.FN aL (by rw[rA];rfl)) jh hw aV (by
    rw[HP];exact⟨vQ,e,(0,0),rfl,DR.trans df,by
     grind,(fun i v hv=>by simp at hv),fun _=>rfl,(fun h=>by cases h),rfl,fun _=>rfl⟩)
   obtain⟨Bl,v',oL,uO,Ig,T7⟩:=aa9 _ _ ⟨l.b,d0,re.size,l.sz⟩ cap uM s8 (j9 _ _ _) (uC _ rfl) rfl Ns jF ⟨vQ,HP,DR.trans df,YB _ vQ d0 (fun _ _ h=>h) (fun i row j d hi hj=>by
    obtain⟨v,v1,v2⟩:=YA i row j d hi hj;refine⟨v,?_,v2⟩;rw[ho (i*re.size+j) ?_]
    ·exact v1
    ·have gw:=(xe.1 hi).1;have ju:j<re.size:=by rw[<-ow row (xu hi)];exact(xe.1 hj).1
     have:(i+1)*re.size<=rows.length*re.size:=xD _ gw
     grind) hn⟩
   refine⟨Bl,v',w',?_,uO,Ig,T7⟩
   grind
  have bF0:rows.length*re.size<=cap*re.size:=xD _ G9;by_cases sV:nr.length=0
  ·have DJ:nr=[]:=xE.1 sV;have bF3:dI=[]:=xE.1 Ns;have bu4:Src P ie.size tx x' 0 dI w:=by rw[sV] at src;exact src
   have aW:=EX (P:=P) (ty:=ty) hu jK bu4 (some ⟨l.b,d0,none⟩) rows.length cap G9;refine Xv w aB ⟨rfl,rfl,rfl,xk _,fun _ _ _=>rfl⟩ rfl hh rfl (fun _ _=>rfl) (fun j v hj=>Ns) MK ?_
   grind
  ·by_cases oX:rows.length+nr.length<=cap
   ·have DK:(rows.length+nr.length)*re.size<=cap*re.size:=xD _ oX;rw[Nat.add_mul] at DK;have iP:∀j,j<dI.length->(w.cell? ⟨l.b,d0+rows.length*ie.size+j,none⟩).isSome=true:=fun j hj=>by
     rw[cell_of_row w l.b _ aB e (0,0) hh]
     grind
    have nj:∀j,j<dI.length->w.frozen? ⟨l.b,d0+rows.length*ie.size+j,none⟩=false:=fun j _=>by simp[World.frozen?,hh]
    have aW:=run_append_room_src (P:=P) w t tx ty e ie hu jK l.b d0 rows.length cap x' nr.length dI src oX iP nj;have rm:=run_storeCells_cells (P:=P) l.b (d0+rows.length*ie.size) dI 0 w Ns Ns src.one;rw[Nat.add_zero] at rm;have bk:=run_storeCells_at (P:=P) l.b (d0+rows.length*ie.size) e dI 0 aB w hh Ns src.one;rw[Nat.add_zero,rm] at bk;have Ru:=(Result.ok.inj bk).2;rw[Ru] at aW;have Dc:d0+rows.length*ie.size+dI.length<=aB.size:=by rw[mG];omega
    refine Xv _ _ (Ip w l.b _) NS (setRow_heap w l.b aB _ e (0,0) hh) (UD _ _ _ Dc) (fun j hj=> ?_) (fun j v hj=> ?_) oX aW
    ·rw[zQ _ _ _ Dc,if_neg (by rw[mG];omega)]
    ·have fH:=(xe.1 hj).1;rw[zQ _ _ _ Dc,if_pos Ns,show d0+rows.length*re.size+j - (d0+rows.length*ie.size)=j by grind];exact hj
   ·let eJ:=(List.range (rows.length*re.size)).map fun j=>aB.getD (d0+j) undef
    have mJ:eJ.length=rows.length*re.size:=by simp[eJ]
    have hog:∀j,j<rows.length*re.size->eJ[j]? =some (aB.getD (d0+j) undef):=fun j hj=>by
     grind
    have hcg:∀j,j<rows.length*re.size->aB[d0+j]? =some (aB.getD (d0+j) undef):=fun j hj=>by
     have:d0+j<aB.size:=MK
     simp[this]
    refine Gv (some ⟨l.b,d0,none⟩) eJ (run_firstCells_some w.drew ie.size rows.length _ rows.length cap eJ Ns (fun j u hu=> ?_)) mJ MK (fun i row j d hi hj=> ?_)
    ·have hj:j<rows.length*re.size:=by rw[<-mJ];exact(xe.1 hu).1
     rw[hog j hj] at hu;cases hu;rw[Addr.add_mid,World.cell?_drew,cell_of_row w l.b _ aB e (0,0) hh]
     grind
    ·obtain⟨v,v1,v2⟩:=YA i row j d hi hj;have gw:=(xe.1 hi).1;have ju:j<re.size:=by rw[<-ow row (xu hi)];exact(xe.1 hj).1
     have bm:i*re.size+j<rows.length*re.size:=by
      have:(i+1)*re.size<=rows.length*re.size:=xD _ gw;rw[Nat.add_mul] at this;omega
     grind
end
def rU(v:xM):C3:=match v with| .agg ⟨l⟩=>l|v=>[v]
def z5(E:az)(A:AW)(t:xN)(a x:xM):Option AW:=
 match a,E.ti.get none t with
 | .iface B (.agg ⟨[iv,.int .i64 (.ofNat es),.int .i64 (.ofNat off)]⟩),some r=>match lL E.G.n 4 x A with
  |some (u,A1)=>match A1.get B with
   |some ⟨.own c,ae,ex,false,ty⟩=>bs (Nat.beq es ae&&Nat.ble E.G.n B&&Nat.beq (bT (rU u)) r.size&&fb one (rU u)) (match nJ A1 (.kj off) (c::iv::rU u) with
    |some (y,A2)=>some (A2.put B (some ⟨.own y,ae,ex,false,ty⟩))
    |none=>none) none
   |_=>none
  |none=>none
 |_,_=>none
def S2(E:az)(A:AW)(t:xN)(l c:xM):Im:=
 match E.ti.get none t with
 |some ⟨.slice e,_,_,_,_⟩=>match E.ti.get none e with
  |some re=>bs (re.uj&&Nat.beq (bT re.zero) re.size&&Nat.ble 1 re.size&&Nat.blt e jN&& (fB l||fB c)) (match nJ A (.n0 re.size re.bytes) (l::c::fC rj re.zero) with
   |some (u,A1)=>(match ye A1 none u re.size e with|some A2=>some (.iface A1.next u,A2)|none=>none)
   |none=>none) none
  |none=>none
 |_=>none
def O7(E:az)(A:AW)(t:xN)(x lo:xM)(hi:C3):Im:=
 match E.ti.get none t with
 |some ⟨.slice e,_,_,_,_⟩=>match kX E e with
  |some n=>match lL E.G.n 4 x A with
   |some (u,A1)=>nJ A1 (.pR n) (u::lo::hi)
   |none=>none
  |none=>none
 |_=>none
section
variable(ok:E.Ok P)
include ok in
theorem run_make{re:Row}{a1 a2 a3 a4}(hr:E.ti.get none t=some ⟨.slice e,a1,a2,a3,a4⟩)(fX:E.ti.get none e=some re)(G4:re.uj=true)(yH:re.zero.length=re.size){ln cn:Nat}(af0:ln<=cn)(bn9:cn<=9223372036854775807)(bB2:cn*re.bytes<=140737488355328)(w:World):
 ∃C:C3,C.length=cn*re.size/\(∀i,i<cn*re.size->C[i]? =re.zero[i%re.size]?)/\(Instr.makeSlice t (.int .i64 (ln:Nat)) (.int .i64 (cn:Nat))).run P w= .ok (.slice (some ⟨w.heap.size,0,none⟩) ln cn) (w.alloc (.cells ⟨C⟩ e)):=by
  have hu:=(ok.ti t _ hr).1;obtain⟨_,ie,jK,mG,BL,hz⟩:=ok.ti e re fX;obtain⟨z,mD,fV⟩:=hz G4;obtain⟨C,hC⟩:∃C:C3,((Array.range (cn*re.size)).map (fun x=>(if cn*re.size=0 then #[] else(⟨re.zero⟩:KB))[x% (if cn*re.size=0 then #[] else(⟨re.zero⟩:KB)).size]!))=⟨C⟩:=⟨_,rfl⟩;have ED:C.length=cn*re.size:=by have:=congrArg Array.size hC;simpa using this.symm
  refine⟨C,ED,fun i hi=> ?_,?_⟩
  ·have h0: ¬cn*re.size=0:=MK
   have aV:0<re.size:=by
    rcases xI re.size with e|e
    ·grind
    ·exact e
   have hm:i%re.size<re.zero.length:=by rw[yH];exact Nat.mod_lt _ aV
   have h2:=congrArg (fun a:KB=>a[i]?) hC
   grind
  have w1:IntKind.i64.wrap (ln:Int)=(ln:Int):=IntWalk.i64_in _ MK;have w2:IntKind.i64.wrap (cn:Int)=(cn:Int):=IntWalk.i64_in _ MK;have bP: ¬((281474976710656:Int)<(re.bytes:Int)*(cn:Int)):=by
   have h5:((cn*re.bytes:Nat):Int)<=140737488355328:=MK
   rw[Int.natCast_mul,Int.mul_comm] at h5;omega
  have oX: ¬roomBytes<cn*re.bytes:=by rw[show roomBytes=140737488355328 from rfl];omega
  have A6: ¬((cn:Int)<0):=MK
  have Gr: ¬((ln:Int)<0):=MK
  have sA: ¬((cn:Int)<(ln:Int)):=MK
  by_cases h0:cn*re.size=0
  ·rw[if_pos h0] at hC;simp[Instr.makeSlice,run_underlying hu,asInt,asIntOf,typeInfo,jK,BL,w1,w2,bP,A6,Gr,sA,askRoom,oX,eZ ok fX,h0,newRow]
   grind
  ·rw[if_neg h0] at hC;simp[Instr.makeSlice,run_underlying hu,asInt,asIntOf,typeInfo,jK,BL,w1,w2,bP,A6,Gr,sA,askRoom,oX,eZ ok fX,h0,newRow,zeroValue,mD,fV]
   grind
theorem av2{u v':xM}{n:Nat}(h1:fb one (rU u)=true)(hv:aj β u v')(bo:∀d,u= .agg d->True:=fun _ _=>trivial)(hd:(bR β.d u).isSome=true):∃l',v'.cells=⟨l'⟩/\aZ β (rU u) l':=by
 unfold rU at h1⊢;split at h1
 ·cases hv with
  |agg _ p' hp h2=>exact⟨p',rfl,hp,h2⟩
 ·rename_i ez;have qN:one u=true:=oR one _ h1 u xn;have dJ:=Xf qN hv;refine⟨[v'],?_,aZ.cons hv (aZ.nil β)⟩;obtain⟨d,hd⟩:=Option.isSome_iff_exists.1 hd;have gF:=fx hd hv;have hc:d.cell=true:=by
   unfold bR at hd;split at hd
   ·grind
   ·grind [FH]
  grind [Fv]
theorem XN:∀(l0:C3) (ds:Di),fb one l0=true->aH (bR δ) l0=some ds->aH (aX δ) l0=some ds
 |[],ds,_,h=>h
 |v::l0,ds,ho,h=>by
  obtain⟨d1,d2,rfl,e1,e2⟩:=jb h;have iY:bs (one v) (fb one l0) false=true:=ho;rcases aC iY with⟨h1,h2⟩|⟨_,h2⟩
  ·unfold aH;rw[XN l0 d2 h2 e2];have:aX δ v=some d1:=by
    unfold bR at e1;split at e1
    ·cases h1
    ·exact e1
   rw[this]
  ·cases h2
theorem av3{u:xM}{ds:Di}(h1:fb one (rU u)=true)(h:aH (bR δ) (rU u)=some ds):(bR δ u).isSome=true:=by
 unfold rU at h h1;split at h
 ·rename_i l0;have e:=XN l0 _ h1 h;show(Option.map D.agg (aH (aX δ) l0)).isSome=true;rw[e];rfl
 ·obtain⟨d1,rfl,e4⟩:=kU h;rw[e4];rfl
include ok in
theorem aw1{a a' x:xM}(h:z5 E A t a x=some A')(inv:Inv w0 E.G β A w)(ha:aj β a a')(hx:aj β x x'):∃β' w',(Instr.storeAt t a' x').run P w= .ok () w'/\Inv w0 E.G β' A' w'/\β.grow β' A.next/\A.next<=A'.next:=by
 unfold z5 at h;split at h;rotate_left
 ·cases h
 rename_i B iv es off r hr;split at h;rotate_left
 ·cases h
 rename_i u A1 hf;split at h;rotate_left
 ·cases h
 rename_i c ae ex ty hg;replace h:=aC h;rcases h with⟨hb,h⟩|⟨_,h⟩;rotate_left
 ·cases h
 split at h;rotate_left
 ·cases h
 rename_i y A2 eC;cases h;simp only [xf,eH] at hb;obtain⟨⟨⟨dU,hG⟩,aV⟩,ua⟩:=hb;have yM:=xb dU;subst yM;have uJ:=xh hG;have G5:=xb aV;obtain⟨aK,i1,g1,n1,f1⟩:=yi ok (w0:=w0) (w:=w) 4 x A u A1 β hf inv;obtain⟨nd,rt,cy,ht,eN,ez,gu,rfl,rfl⟩:=nW eC;have i2:=i1.pop (r:=rt) (fun x hx=>Ns);have hu:aj aK u x':=f1 aK (ai.dg _ _) x' (hx.mono (inv.gy g1));have hq:bY aK.d nd:=ok.q _ _ (i1.dX nd Ns);unfold bY at hq;rw[eN] at hq;obtain⟨ds,d,q1,q2,q3⟩:=hq;rw[ez] at q1;rw[gu] at q2;obtain⟨q4,q5⟩:=jO q2;obtain⟨dc,ds1,rfl,e1,q1⟩:=jb q1;obtain⟨di,oM,rfl,e2,e3⟩:=jb q1;have gx:(A1.pop rt).get B=some ⟨.own c,es,ex,false,ty⟩:=hg;obtain⟨rows,hd,ho⟩:=i2.own B _ gx;rw[lE hd] at e1;cases e1;have aJ:Wo off (.sl rows) di oM=some d:=q3;have nw:aj aK (.iface B (.agg ⟨[iv,.int .i64 (.ofNat es),.int .i64 (.ofNat off)]⟩)) a':=ha.mono (inv.gy g1);cases nw with
 |qv _ _ _ m l _ k hl hi=>
  rw[lE hi] at e2;cases e2;obtain⟨row,eS,q6⟩:=xr.1 (show(rows[m]?).bind _=some d from aJ);split at q6;rotate_left
  ·cases q6
  rename_i jF;cases q6;obtain⟨aB,Gj,k1,k2,k3,k4,k5,k6,k7⟩:=i2.cont B _ l gx hl;have Bu:(D.sl rows)= .sl Gj:=xC (hd.symm.trans k3);cases Bu;have uv:l.es=es:=k4;have ow:row.length=es:=by rw[<-uv];exact k5 row (xu eS)
  have ae7:=(xe.1 eS).1;have bA8:oM.length=(rU u).length:=pz e3;have bm5:=av3 ua e3;obtain⟨l',fG,jt⟩:=av2 (n:=0) ua hu (fun _ _=>trivial) bm5;have lm:l'.length=r.size:=by rw[<-jt.1,G5]
  have DK:(m+1)*es<=rows.length*es:=xD _ ae7;rw[Nat.add_mul] at DK;rw[uv] at k6;have bn5:l.d+(m*es+off)+l'.length<=aB.size:=by rw[k2];omega
  have bn0:=OX ua jt;have bk:=run_storeCells_at (P:=P) l.b (l.d+(m*es+off)) ty l' 0 aB w k1 MK bn0;rw[Nat.add_zero] at bk;have aW:(Instr.storeAt t (.pointer (some ⟨l.b,l.d+(m*es+off),none⟩)) x').run P w= .ok () (w.setRow l.b (aB.toList.take (l.d+(m*es+off))++l'++aB.toList.drop (l.d+(m*es+off)+l'.length)).toArray):=by
   simp[Instr.storeAt,Instr.sureAddr,storeVar,eZ ok hr,fG,lm,bk]
  have kZ:∀(i:Nat) (Ea:Di) (j:Nat) (d:D),(rows.set m (row.take off++oM++row.drop (off+oM.length)))[i]? =some Ea->Ea[j]? =some d->j<es/\((i=m/\off<=j/\j<off+oM.length/\oM[j - off]? =some d)\/(rows[i]? =some Ea/\i≠m)\/(i=m/\(j<off\/off+oM.length<=j)/\row[j]? =some d)):=fun i Ea j d hi hj=>by
   by_cases him:m=i
   ·subst him;rw[List.getElem?_set_self ae7] at hi
    ·cases hi;have fH:=(xe.1 hj).1;simp only [xa,xz,List.length_drop] at fH;have bz3:j<es:=MK
     refine⟨bz3,?_⟩;by_cases h1:j<off
     ·grind
     ·by_cases h2:j<off+oM.length
      ·grind
      ·rw[xq Of] at hj;rw[xa,xz,Nat.min_eq_left MK,List.getElem?_drop] at hj
       grind
   grind
  have ae6:∀Ra∈rows.set m (row.take off++oM++row.drop (off+oM.length)),Ra.length=es:=fun Ra cF=>by
   grind
  have ii:aX aK.d (.chan (some (cy+1)))=some (.sl (rows.set m (row.take off++oM++row.drop (off+oM.length)))):=by
   show(aK.d cy).bind _=_;rw[q4];rfl
  have l5:oM.length=l'.length:=by rw[bA8,jt.1]
  have hw:=i2.write (w':=w.setRow l.b (aB.toList.take (l.d+(m*es+off))++l'++aB.toList.drop (l.d+(m*es+off)+l'.length)).toArray) B l _ ⟨.own (.chan (some (cy+1))),es,ex,false,ty⟩ gx hl uJ (Ip w l.b _) NS (by
   rw[setRow_heap w l.b aB _ ty (0,0) k1];refine⟨_,_,rfl,Ns,ii,uv,(fun Ra cF=>Ns),Ns,fun i Ea j d hi hj=> ?_⟩;rw[uv];rw[zQ _ _ _ bn5];obtain⟨hje,hc⟩:=kZ i Ea j d hi hj;rcases hc with⟨rfl,h1,h2,h3⟩|⟨h1,h2⟩|⟨rfl,h1,h2⟩
   ·rw[if_pos MK,show l.d+(i*es+j) - (l.d+(i*es+off))=j - off by omega];have wA:j - off<l'.length:=MK
    refine⟨l'[j - off],xc wA,?_⟩;have HN:j - off<(rU u).length:=MK
    exact fx (nX e3 h3 (xc HN)) (jt.2 _ _ _ (xc HN) (xc wA))
   ·have: ¬(l.d+(m*es+off)<=l.d+(i*es+j)/\l.d+(i*es+j)<l.d+(m*es+off)+l'.length):=by
     rcases Nat.lt_or_gt_of_ne h2 with h9|h9
     ·have:(i+1)*es<=m*es:=xD _ h9
      grind
     ·have:(m+1)*es<=i*es:=xD _ h9
      grind
    rw[if_neg this]
    simp_all
   ·rw[if_neg MK]
    simp_all) (by
   refine⟨_,ii,?_⟩
   grind)
  exact⟨aK,_,aW,hw,g1,by show A.next<=A1.next;grind⟩
include ok in
theorem aF3{l l' c c' v:xM}(h:S2 E A t l c=some (v,A'))(inv:Inv w0 E.G β A w)(hl:aj β l l')(hc:aj β c c'):jH w0 E.G β A ((Instr.makeSlice t l' c').run P w) v A'/\A.next<=A'.next:=by
 unfold S2 at h;split at h;rotate_left
 ·cases h
 rename_i e _ _ _ _ hr;split at h;rotate_left
 ·cases h
 rename_i re fX;replace h:=aC h;rcases h with⟨hb,h⟩|⟨_,h⟩;rotate_left
 ·cases h
 split at h;rotate_left
 ·cases h
 rename_i u A1 eC;split at h;rotate_left
 ·cases h
 rename_i A2 iT;cases h;simp only [xf,eH] at hb;obtain⟨⟨⟨⟨G4,HB⟩,h1⟩,Mq⟩,_⟩:=hb;have yH:=xb HB;have qN:=xh h1;obtain⟨nd,rt,cu,ht,eN,ez,gu,rfl,rfl⟩:=nW eC;have i2:=inv.pop (r:=rt) (fun x hx=>Ns);have hq:bY β.d nd:=ok.q _ _ (inv.dX nd Ns);unfold bY at hq;rw[eN] at hq;obtain⟨ds,d,q1,q2,q3⟩:=hq;rw[ez] at q1;rw[gu] at q2;obtain⟨q4,q5⟩:=jO q2;obtain⟨dl,ds1,rfl,e1,q7⟩:=jb q1;obtain⟨dc,zs,rfl,e2,e3⟩:=jb q7;clear q1 q7;have aJ:GC re.size re.bytes dl dc zs=some d:=q3;unfold GC at aJ;split at aJ;rotate_left
 ·cases aJ
 rename_i ln cn;split at aJ;rotate_left
 ·cases aJ
 rename_i sa;obtain⟨mD,fV,ot⟩:=sa;cases aJ;have aL:=fx e1 hl;have bM:=fx e2 hc;cases aL;cases bM;unfold mX at ot;simp only [xf,decide_eq_true_iff] at ot;obtain⟨C,hC1,hC2,aW⟩:=run_make (P:=P) ok hr fX G4 yH (ln:=ln) (cn:=cn) fV ot.1 ot.2 w;have Zn:=Ch β re.zero;unfold ye at iT;simp only [Eg] at iT;split at iT;rotate_left
 ·cases iT
 rename_i T9 T6 T4 SP j6;cases iT;have ae6:=Vk (E:=E) (w:=w) i2 [] [] e re.size false (fun β' hb=>aZ.nil β');obtain⟨g1,g2⟩:=i2.new (l:=⟨w.heap.size,0,re.size,C.length⟩) ⟨.cells [],re.size,false,false,e⟩ (.cells ⟨C⟩ e) rfl
  ⟨⟨C⟩,e,(0,0),rfl,rfl,NS,(fun i v hv=>by simp at hv),fun _=>rfl,(fun h=>by cases h),rfl,fun _=>rfl⟩
 have uC:(β.put (A.pop rt).next ⟨w.heap.size,0,re.size,C.length⟩).o (A.pop rt).next=none:=by
  show β.o A.next=none;cases hq:β.o A.next with
  |none=>rfl
  |some v=>have:=inv.iG _ _ hq;omega
 have ii:∀(cY:ai),cY.d=β.d->aX cY.d (.chan (some (cu+1)))=some (.sl (List.replicate ln zs)):=fun cY e=>by
  show(cY.d cu).bind _=_
  grind
 have qJ:=g1.relabel (B:=(A.pop rt).next) (blk':=⟨.own (.chan (some (cu+1))),re.size,false,false,e⟩) (v:= .slice (some ⟨w.heap.size,0,none⟩) (List.replicate ln zs).length cn) j6 (Nat.lt_succ_self _) uC rfl (fun l2 aL=>by
  rw[j9] at aL;cases aL;refine⟨⟨C⟩,List.replicate ln zs,heap_alloc_new w _,rfl,ii _ rfl,rfl,(fun row hr=>Ns),?_,fun i row j d hi hj=> ?_⟩
  ·show 0+(List.replicate ln zs).length*re.size<=C.length;rw[List.length_replicate,hC1];have:ln*re.size<=cn*re.size:=xD _ fV;omega
  ·have gw:=(xe.1 hi).1;rw[List.length_replicate] at gw;rw[List.getElem?_replicate,if_pos gw] at hi;cases hi;have ju:j<re.size:=by rw[<-mD];exact(xe.1 hj).1
   have bm:i*re.size+j<cn*re.size:=by
    have:(i+1)*re.size<=cn*re.size:=xD _ MK;rw[Nat.add_mul] at this;omega
   have A8:(i*re.size+j)%re.size=j:=by
    rw[Nat.mul_comm,Nat.mul_add_mod,Nat.mod_eq_of_lt ju]
   have TP:=hC2 _ bm;rw[A8] at TP;have wA:j<re.zero.length:=by rw[yH];exact ju
   refine⟨re.zero[j],?_,?_⟩
   ·grind
   ·have HN:j<(fC rj re.zero).length:=by rw[Zn.1];exact wA
    exact fx (β:=β) (nX e3 hj (xc HN)) (Zn.2 _ _ _ (xc HN) (xc wA)))
  ⟨List.replicate ln zs,ii _ rfl,.inr ⟨_,cn,j9 _ _ _,by show(if(A.pop rt).next=(A.pop rt).next then _ else _)=_;grind,Ns,Ns,rfl⟩⟩
 refine⟨⟨_,_,_,aW,?_,qJ,?_⟩,Nat.le_succ _⟩
 ·have:=aj.own (β:=(β.put (A.pop rt).next ⟨w.heap.size,0,re.size,C.length⟩).mj (A.pop rt).next (.slice (some ⟨w.heap.size,0,none⟩) (List.replicate ln zs).length cn)) (A.pop rt).next cu (List.replicate ln zs) (some ⟨w.heap.size,0,none⟩) cn (by show(if(A.pop rt).next=(A.pop rt).next then _ else _)=_;grind) (.inr ⟨_,j9 _ _ _,rfl⟩) q4
  grind
 ·exact ai.iz g2 (ai.zE _ _ _) (xk _)
end
def PK(E:az)(A:AW)(s d:xN)(x:xM):Im:=
 match E.ti.get none s,E.ti.get none d with
 |some ⟨.string,_,_,_,_⟩,some ⟨.slice e,_,_,_,_⟩=>match E.ti.get none e with
  |some ⟨.int .u8,_,_,_,_⟩=>bs (fB x) (match nJ A .EM [x] with
   |some (x2,A0)=>(match nJ A0 (.app 1 1) [.slice none 0 0,x2] with
    |some (u,A1)=>(match(A1.add ⟨.cells [],1,false,true,e⟩).get A1.next with
     |some ⟨.cells [],1,false,true,ty⟩=>some (u,(A1.add ⟨.cells [],1,false,true,e⟩).put A1.next (some ⟨.cells [],1,false,true,ty⟩))
     |_=>none)
    |none=>none)
   |none=>none) none
  |_=>none
 |_,_=>none
section
variable(ok:E.Ok P)
include ok in
theorem az6{s d:xN}{x v:xM}(h:PK E A s d x=some (v,A'))(inv:Inv w0 E.G β A w)(hx:aj β x x'):jH w0 E.G β A ((convert s d x').run P w) v A'/\A.next<=A'.next:=by
 unfold PK at h;split at h;rotate_left
 ·cases h
 rename_i e _ _ _ _ hs hd;split at h;rotate_left
 ·cases h
 rename_i he;replace h:=aC h;rcases h with⟨_,h⟩|⟨_,h⟩;rotate_left
 ·cases h
 split at h;rotate_left
 ·cases h
 rename_i x2 A0 HH;split at h;rotate_left
 ·cases h
 rename_i u A1 eC;split at h;rotate_left
 ·cases h
 rename_i ty j6;cases h;obtain⟨rz,Hw,c0,ht0,bx8,by1,DJ,rfl,rfl⟩:=nW HH;have i1:=inv.pop (r:=Hw) (fun x hx=>Ns);have wm:bY β.d rz:=ok.q _ _ (inv.dX rz Ns);unfold bY at wm;rw[bx8] at wm;obtain⟨wM,d2,r1,r2,r3⟩:=wm;rw[by1] at r1;rw[DJ] at r2;obtain⟨r4,r5⟩:=jO r2;obtain⟨dx,rfl,r6⟩:=kU r1;have yW:Ga dx=some d2:=r3;unfold Ga at yW;split at yW;rotate_left
 ·cases yW
 rename_i l;cases yW;have pX:=fx r6 hx;cases pX;obtain⟨nd,rt,cu,ht,eN,ez,gu,rfl,rfl⟩:=nW eC;have i2:=i1.pop (r:=rt) (fun x hx=>Ns);have hq:bY β.d nd:=ok.q _ _ (i1.dX nd Ns);unfold bY at hq;rw[eN] at hq;obtain⟨ds,d1,q1,q2,q3⟩:=hq;rw[ez] at q1;rw[gu] at q2;obtain⟨q4,q5⟩:=jO q2;obtain⟨d0,ds1,rfl,e1,q7⟩:=jb q1;obtain⟨dy,rfl,e2⟩:=kU q7;have oL:D.sl []=d0:=xC e1;subst oL;have uO:(β.d c0).bind (fun x=>if x.cell then some x else none)=some dy:=e2;rw[r4] at uO;have uO:D.str l=dy:=xC uO;subst uO;have aJ:(if mX (([]:Ca).length+(l.map fun b=>[D.int .u8 (b.toNat:Nat)]).length) 1 then some (D.sl ([]++l.map fun b=>[D.int .u8 (b.toNat:Nat)])) else none)=some d1:=q3;split at aJ;rotate_left
 ·cases aJ
 cases aJ;have h1:=(ok.ti s _ hs).1;have h2:=(ok.ti d _ hd).1;have h3:=(ok.ti e _ he).1;have aW:=Lib.run_convert_string_bytes (P:=P) w s d e ⟨⟨l⟩⟩ h1 h2 h3;rw[an4] at aW;have jv:=grownCap_ge w (ByteArray.size ⟨⟨l⟩⟩) 0 e;have aV:ByteArray.size ⟨⟨l⟩⟩=l.length:=rfl;rw[aV] at jv;have df:(Lib.bytesCells w e ⟨⟨l⟩⟩).size=grownCap w l.length 0 e:=by
  unfold Lib.bytesCells;rw[Array.size_append,Array.size_map,Array.size_replicate,aV];show l.length+_=_;omega
 obtain⟨g1,g2⟩:=(i2.drew (w.drawn+1)).new (l:=⟨w.heap.size,0,1,(Lib.bytesCells w e ⟨⟨l⟩⟩).size⟩) ⟨.cells [],1,false,true,e⟩ (.cells (Lib.bytesCells w e ⟨⟨l⟩⟩) e ((Lib.bytesCells w e ⟨⟨l⟩⟩).size,(Lib.bytesCells w e ⟨⟨l⟩⟩).size+1)) rfl
  ⟨_,_,_,rfl,rfl,NS,(fun i v hv=>by simp at hv),(fun h=>by cases h),(fun h=>by cases h),rfl,fun _=>rfl⟩
 have jm:(β.put ((A.pop Hw).pop rt).next ⟨w.heap.size,0,1,(Lib.bytesCells w e ⟨⟨l⟩⟩).size⟩) ((A.pop Hw).pop rt).next=some ⟨w.heap.size,0,1,(Lib.bytesCells w e ⟨⟨l⟩⟩).size⟩:=j9 _ _ _;have hB:E.G.n<=((A.pop Hw).pop rt).next:=by
  rcases Nat.lt_or_ge ((A.pop Hw).pop rt).next E.G.n with bm|jv
  ·obtain⟨l,hl,_⟩:=i2.jn _ bm;have:=i2.ft _ _ hl;omega
  ·exact jv
 obtain⟨k1,k2⟩:=g1.still j6 (.inl ⟨_,rfl⟩) hB jm (heap_alloc_new _ _);refine⟨⟨_,_,_,aW,?_,k1,ai.iz g2 (k2 _) (xk _)⟩,Nat.le_succ _⟩;refine .sym cu (.sl ([]++l.map fun b=>[D.int .u8 (b.toNat:Nat)])) _ q4 rfl ?_;rw[List.nil_append];cases l with
 |nil=>exact .m8 _ _
 |cons b0 l0=>
  have aE:((b0::l0).map fun b=>[D.int .u8 (b.toNat:Nat)]).length=(b0::l0).length:=xm _;have hval:(Value.slice (some ⟨w.heap.size,0,none⟩) (ByteArray.size ⟨⟨b0::l0⟩⟩) (grownCap w (ByteArray.size ⟨⟨b0::l0⟩⟩) 0 e))= .slice (some ⟨w.heap.size,0,none⟩) ((b0::l0).map fun b=>[D.int .u8 (b.toNat:Nat)]).length (grownCap w (ByteArray.size ⟨⟨b0::l0⟩⟩) 0 e):=by rw[aE,aV]
  rw[hval];refine .sl _ 1 w.heap.size 0 _ (Lib.bytesCells w e ⟨⟨b0::l0⟩⟩) (by rw[ai.vw,if_pos rfl]) NS (fun row hr=>by
   obtain⟨b,_,rfl⟩:=xJ.1 hr;rfl) Ns Ns fun i row j d v hi hj hv=> ?_
  rw[xx] at hi;obtain⟨b,hb,rfl⟩:=xp.1 hi;have jJ:j=0:=by
   have:=(xe.1 hj).1;simpa using this
  subst jJ;have fJ:D.int .u8 (b.toNat:Nat)=d:=by simpa using hj
  subst fJ;have nT:=(xe.1 hb).1;unfold Lib.bytesCells at hv;rw[Nat.zero_add,Nat.mul_one,Nat.add_zero,Array.getElem?_append_left Ns] at hv;have bP:l0.length+1=(b0::l0).length:=rfl;have dJ:((b0::l0).map fun b=>Value.int .u8 (b.toNat:Nat))[i]? =some v:=by simpa using hv
  rw[xx,hb] at dJ;cases dJ;exact .int _ _
end
def Pa(A:AW)(x:xM):Im:=
 match x with
 | .iface B (.chan (some (c+1)))=>match A.get B,A.tape with
  |some ⟨.own _,es,_,_,_⟩,nd::r=>bs (n7 nd.k .iO&&nI nd.args [.chan (some (c+1)),.int .i64 0]&&qo nd.res (.bool true)) (some (.iface B (.agg ⟨[.int .i64 0,.int .i64 (.ofNat es),.int .i64 0]⟩),A.pop r)) none
  |_,_=>none
 |_=>none
def PU(E:az)(A:AW)(pt:xN)(p n:xM):Im:=
 match p,E.ti.get none pt with
 | .iface B (.agg ⟨[.int .i64 (.ofNat 0),.int .i64 (.ofNat 1),.int .i64 (.ofNat 0)]⟩),some ⟨.pointer e,_,_,_,_⟩=>match A.get B,E.ti.get none e with
  |some ⟨.own c,1,ex,false,ty⟩,some re=>bs (Nat.beq re.size 1&&Nat.beq ty e&&Nat.ble E.G.n B&&fB n) (match nJ A .C2 [c,n] with
   |some (y,A1)=>some (y,A1.put B (some ⟨.cells [],1,false,true,ty⟩))
   |none=>none) none
  |_,_=>none
 |_,_=>none
theorem Qy:∀{rows:Ca},(∀row∈rows,row.length=1)->rows.flatten.length=rows.length/\∀(j:Nat) (d:D),rows.flatten[j]? =some d->∃row,rows[j]? =some row/\row[0]? =some d
 |[],_=>⟨rfl,fun j d h=>by simp at h⟩
 |row::rows,h=>by
  have h0:=h row xn;obtain⟨h1,h2⟩:=Qy (rows:=rows) fun r hr=>h r (xo _ hr)
  match row,h0 with
  |[x],_=>
   refine⟨by simp[h1],fun j d hd=> ?_⟩;cases j with
   |zero=>simp at hd;subst hd;exact⟨[x],rfl,rfl⟩
   |succ j=>simp at hd;simpa using h2 j d hd
section
variable(ok:E.Ok P)
include ok in
theorem aw7{tys:Array xN}{x v:xM}(h:Pa A x=some (v,A'))(inv:Inv w0 E.G β A w)(hx:aj β x x'):jH w0 E.G β A ((Builtin.unsafeSliceData_ tys ty #[x']).run P w) v A'/\A.next<=A'.next:=by
 unfold Pa at h;split at h;rotate_left
 ·cases h
 rename_i B c;split at h;rotate_left
 ·cases h
 rename_i c0 es ex ro tb nd r hg ht;replace h:=aC h;rcases h with⟨hb,h⟩|⟨_,h⟩;rotate_left
 ·cases h
 cases h;simp only [xf] at hb;obtain⟨⟨b1,b2⟩,b3⟩:=hb;have e1:=qb b1;have e2:=oQ _ _ b2;have e3:=uX b3;have hq:bY β.d nd:=ok.q _ _ (inv.dX nd Ns);unfold bY at hq;rw[e1] at hq;obtain⟨ds,d,q1,q2,q3⟩:=hq;rw[e2] at q1;rw[e3] at q2;have ry:some (D.bool true)=some d:=q2;cases ry;obtain⟨dx,di,rfl,e5,e6⟩:=jj q1;have e6':some (D.int .i64 0)=some di:=e6;cases e6';cases hx with
 |own _ _ rows a cap ho ha hd=>
  have EL:(β.d c).bind (fun x=>if x.cell then some x else none)=some dx:=e5;rw[hd] at EL;have EL:D.sl rows=dx:=xC EL;subst EL;have aJ:some (D.bool (decide (0<rows.length)))=some (.bool true):=q3;have La:0<rows.length:=by
   have:=xC aJ;injection this with this;exact of_decide_eq_true this
  obtain⟨Kb,h1,h2⟩:=inv.own B _ hg;rcases h2 with⟨_,e⟩|⟨l,yQ,k1,k2,k3,_⟩
  ·grind
  ·rw[ho] at k2;injection k2 with k2;injection k2 with e7 e8 e9;subst e7 e9;refine⟨⟨β,_,w,Lib.run_unsafeSliceData_row w tys ty _ _ cap MK,?_,inv.pop (fun x hx=>Ns),ai.dg _ _⟩,xk _⟩;have:=aj.qv (β:=β) B es 0 0 l (.int .i64 0) .i64 k1 rfl
   grind
include ok in
theorem aB1{pt it:xN}{p p' n n' v:xM}(h:PU E A pt p n=some (v,A'))(inv:Inv w0 E.G β A w)(hp:aj β p p')(hn:aj β n n'):jH w0 E.G β A ((Builtin.unsafeString_ #[pt,it] ty #[p',n']).run P w) v A'/\A.next<=A'.next:=by
 unfold PU at h;split at h;rotate_left
 ·cases h
 rename_i B e _ _ _ _ Mg;split at h;rotate_left
 ·cases h
 rename_i c ex tb re hg fX;replace h:=aC h;rcases h with⟨hb,h⟩|⟨_,h⟩;rotate_left
 ·cases h
 split at h;rotate_left
 ·cases h
 rename_i y A1 eC;cases h;simp only [xf] at hb;obtain⟨⟨⟨b1,b2⟩,b3⟩,b4⟩:=hb;have b1':=xb b1;have b2':=xb b2;have Ue:=xh b3;subst b2';obtain⟨nd,rt,cy,ht,eN,ez,gu,rfl,rfl⟩:=nW eC;have i2:=inv.pop (r:=rt) (fun x hx=>Ns);have hq:bY β.d nd:=ok.q _ _ (inv.dX nd Ns);unfold bY at hq;rw[eN] at hq;obtain⟨ds,d,q1,q2,q3⟩:=hq;rw[ez] at q1;rw[gu] at q2;obtain⟨q4,q5⟩:=jO q2;obtain⟨dx,dn,rfl,e5,e6⟩:=jj q1;obtain⟨rows,h1,h2⟩:=i2.own B _ hg;rw[lE h1] at e5;cases e5;have fj:=fx e6 hn;have aJ:N9 (.sl rows) dn=some d:=q3;unfold N9 at aJ;split at aJ;rotate_left
 ·cases aJ
 rename_i iC m iE;cases iE;split at aJ;rotate_left
 ·cases aJ
 rename_i hm;obtain⟨uF,j4⟩:=hm;obtain⟨l,hl,rfl⟩:=xp.1 aJ;subst uF;cases fj;cases hp with
 |qv _ _ _ m0 lc _ k eK hi=>
  have cb:D.int .i64 0= .int k (m0:Nat):=xC hi;injection cb with _ ng;have by3:m0=0:=MK
  subst by3;obtain⟨aB,Gj,k1,k2,k3,k4,k5,k6,k7⟩:=i2.cont B _ lc hg eK;have Bu:(D.sl rows)= .sl Gj:=xC (h1.symm.trans k3);cases Bu;have uv:lc.es=1:=k4;rw[uv] at k5 k6 k7;obtain⟨f1,f2⟩:=Qy k5;obtain⟨g1,g2⟩:=Ng hl;have lm:l.length=rows.length:=by rw[<-g1,f1]
  have iP:∀j x,l[j]? =some x->w.cell? ((⟨lc.b,lc.d,none⟩:Addr).add j)=some (.int .u8 x.toNat):=fun j x hx=>by
   obtain⟨row,ey,bE⟩:=f2 j _ (g2 j x hx);obtain⟨v,lX,dJ⟩:=k7 j row 0 _ ey bE;cases dJ;rw[Addr.add_mid,cell_of_row w lc.b _ aB tb (0,0) k1]
   grind
  have cM:Inv w0 E.G β ((A.pop rt).put B (some ⟨.cells [],1,false,true,tb⟩)) (w.freeze ⟨lc.b,lc.d,none⟩ rows.length):=by
   obtain⟨TW,hf⟩:=ay4 w lc.b lc.d rows.length k1;refine i2.X0 B lc _ _ hg eK Ue (ao8 w lc.b lc.d rows.length) (aq8 w lc.b lc.d rows.length) ?_ trivial (fun bB hz=> ?_) (fun h=>by cases h)
   ·rw[hf];exact⟨aB,tb,TW,rfl,k2,by simp;omega,(fun i v hv=>by simp at hv),(fun h=>by cases h),(fun h=>by cases h),uv,fun _=>rfl⟩
   ·grind [i2.dB]
  have bk:aj β (.chan (some (cy+1))) (.string ⟨⟨l⟩⟩):= .sym cy (.str l) _ q4 rfl (.str _);have cq9:(⟨lc.b,lc.d+(0*1+0),none⟩:Addr)=⟨lc.b,lc.d,none⟩:=rfl;by_cases h0:rows.length=0
  ·have ni:l=[]:=xA MK;subst ni;have HV:w.freeze ⟨lc.b,lc.d,none⟩ rows.length=w:=by
    unfold World.freeze;rw[if_pos (by simp[h0])]
   rw[HV] at cM;refine⟨⟨β,_,w,?_,bk,cM,ai.dg _ _⟩,xk _⟩;rw[h0];exact Lib.run_unsafeString_none w pt it ty _
  ·have pY:=Lib.run_loadBytes (P:=P) w l ⟨lc.b,lc.d,none⟩ .empty iP;rw[lm] at pY;have h5:P.cellsOf tb=1:=(WU ok fX).trans b1';obtain⟨ie,s1⟩:∃ie,w.shape? lc.b=some (tb,ie)/\ie=lc.sz:=⟨_,by grind [World.shape?],k2⟩;obtain⟨s1,s2⟩:=s1;subst s2;have Zu:=as7 (P:=P) (xk 1) h5 lc.sz lc.d rows.length Ns;rw[Nat.mul_one] at Zu;have bw9:=(ok.ti pt _ Mg).1;refine⟨⟨β,.string ⟨⟨l⟩⟩,w.freeze ⟨lc.b,lc.d,none⟩ rows.length,?_,bk,cM,ai.dg _ _⟩,xk _⟩;have bA6:Builtin.unsafeString_ #[pt,it] ty #[.pointer (some ⟨lc.b,lc.d,none⟩),.int .i64 (Int.ofNat rows.length)]=
    (do
     let n<-asInt (.int .i64 (Int.ofNat rows.length))
     if n<0 then runtimePanic (.error "unsafe.String: len out of range")
     if n>IntKind.i64.max then unsupported (.unsafePointer "String: a length above the largest int")
     if n=0 then pure (.string .empty)
     else if<-variablesAt ⟨lc.b,lc.d,none⟩ (<-elemOf pt) n.toNat then do
      let s<-loadBytes ⟨lc.b,lc.d,none⟩ .empty n.toNat
      freeze ⟨lc.b,lc.d,none⟩ n.toNat
      pure (.string s)
     else unsupported (.unsafePointer "String: not so many bytes at ptr")):=rfl
   show(Builtin.unsafeString_ #[pt,it] ty #[.pointer (some ⟨lc.b,lc.d,none⟩),.int .i64 (Int.ofNat rows.length)]).run P w=_;rw[bA6];have Ry:IntKind.i64.max=9223372036854775807:=rfl;have bC0: ¬(9223372036854775807:Int)<(rows.length:Int):=MK
   have A6: ¬(rows.length:Int)<0:=MK
   simp[asInt,asIntOf,Ry,bC0,A6,h0,variablesAt,s1,elemOf,run_underlying bw9,h5,Zu,pY]
include ok in
theorem aw3{n:Nat}{g:Gt}{a:Act}(hf:bU β n g a.tmps){x:Operand}{lo hi:Option Operand}{u:xM}(h:O7 E A t (ev E g x) (pU E g lo) (qI E g hi)=some (u,A'))(inv:Inv w0 E.G β A w):
 ∃β' v',(Instr.sliceAt t (a.eval x) (lo.map a.eval) (hi.map a.eval) none).run P w= .ok v' w/\aj β' u v'/\Inv w0 E.G β' A' w/\β.grow β' A.next/\A.next<=A'.next:=by
 unfold O7 at h;split at h;rotate_left
 ·cases h
 rename_i hr;split at h;rotate_left
 ·cases h
 rename_i hs;split at h;rotate_left
 ·cases h
 rename_i u1 A1 nj;obtain⟨aK,i1,g1,n1,f1⟩:=yi ok (w0:=w0) (w:=w) 4 _ A u1 A1 β nj inv;obtain⟨nd,rt,cy,ht,eN,ez,gu,hu,rfl⟩:=nW h;have i2:=i1.pop (r:=rt) (fun x hx=>Ns);have qE:aj aK u1 (a.eval x):=f1 aK (ai.dg _ _) _ ((kB (a:=a) inv hf x).mono (inv.gy g1));have hq:bY aK.d nd:=ok.q _ _ (i1.dX nd Ns);unfold bY at hq;rw[eN] at hq;obtain⟨ds,d,q1,q2,q3⟩:=hq;rw[ez] at q1;rw[gu] at q2;have q3:D9 (Ae _) ds=some d:=q3;have E1:=fun(y:Operand) (d:D) (hd:bR aK.d (ev E g y)=some d)=>fx hd ((kB (a:=a) inv hf y).mono (inv.gy g1))
 obtain⟨dx,al,hb,k,b,e1,e2,e3,e4⟩:=OW E1 (fun x b=>by grind [Ae]) q1 q3;obtain⟨v',r1,r2⟩:=X' ok hr hs e2 (fx e1 qE) e3 e4 w;exact⟨aK,v',r1,uV q2 r2,i2,g1,Nat.le_of_eq n1.symm⟩
end
end
end Go.Ex
