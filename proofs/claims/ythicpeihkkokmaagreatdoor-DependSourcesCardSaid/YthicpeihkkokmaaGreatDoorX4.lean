/- A verified evaluator of Go functions. -/
import Derived.Test.YthicpeihkkokmaaGreatDoorX3
set_option linter.unusedVariables false
set_option linter.unusedSimpArgs false
namespace Go.Ex
variable{w0 w:World}{G:GP}{β:af}{A A':AW}{B:Nat}{blk blk':aE}{e t ty:xN}{P:Program}{E:au}{δ:a0j}{d:D}{x':xM}
open Go.RowKit
noncomputable section
def l7(v:xM):Bool:=
 match v with
 | .chan (some (_+1))=>true
 | .int _ _=>true
 | .bool _=>true
 | .string _=>true
 | .nilFunc=>true
 | .nilIface=>true
 | .pointer none=>true
 | .slice none 0 0=>true
 | .map none=>true
 | .func (.func _) ⟨[]⟩ ⟨[]⟩=>true
 |_=>false
def nJ(ih:xM->AW->a0q)(l:a0e):AW->Option (List xM×AW):=
 List.rec (motive:=fun _=>AW->Option (List xM×AW)) (fun A=>some ([],A))
  (fun v _ r A=>match ih v A with|some (u,A1)=>(match r A1 with|some (us,A2)=>some (u::us,A2)|none=>none)|none=>none) l
def AW.pop(A:AW)(r:List Node):AW:=⟨A.heap,A.next,r⟩
def nC(A:AW)(k:NK)(us:a0e):a0q:=
 match A.tape with
 |[]=>none
 |nd::r=>bs (nF k nd.k) (bs (kS us nd.args) (bs (eX nd.res) (some (nd.res,A.pop r)) none) none) none
def KD(A:AW)(B:Nat):Option AW:=
 match A.get B with
 |some ⟨.cells cs,es,ex,_,ty⟩=>some (A.put B (some ⟨.cells cs,es,ex,true,ty⟩))
 |_=>none
def EY(G:Nat)(ih:xM->AW->a0q)(v:xM)(A:AW):a0q:=
 match v with
 | .iface B (.chan (some (_+1)))=>match A.get B with
  |some ⟨.own c,es,ex,_,ty⟩=>bs (Nat.ble G B) (bs (eX c) (some (c,A.put B (some ⟨.own c,es,ex,true,ty⟩))) none) none
  |_=>none
 | .slice (some ⟨B,o,none⟩) k _=>match A.get B with
  |some ⟨.cells cs,es,_,_,_⟩=>match oK (Nat.mul k es) (p9 o cs) with
   |some l=>match nJ ih l A with
    |some (us,A1)=>match nC A1 (.cP es k) us with
     |some (u,A2)=>match KD A2 B with
      |some A3=>bs (Nat.ble G B) (some (u,A3)) none
      |none=>none
     |none=>none
    |none=>none
   |none=>none
  |_=>none
 | .pointer (some ⟨B,o,none⟩)=>match A.get B with
  |some ⟨.cells cs,_,_,_,_⟩=>match nJ ih cs A with
   |some (us,A1)=>match nC A1 (.Ik o) us with
    |some (u,A2)=>match KD A2 B with
     |some A3=>bs (Nat.ble G B) (some (u,A3)) none
     |none=>none
    |none=>none
   |none=>none
  |_=>none
 | .agg ⟨l⟩=>match nJ ih l A with
  |some (us,A1)=>some (.agg ⟨us⟩,A1)
  |none=>none
 | .tuple ⟨l⟩=>match nJ ih l A with
  |some (us,A1)=>some (.tuple ⟨us⟩,A1)
  |none=>none
 |_=>none
def kW(G n:Nat):xM->AW->a0q:=
 Nat.rec (motive:=fun _=>xM->AW->a0q) (fun v A=>bs (l7 v) (some (v,A)) none) (fun _ ih v A=>bs (l7 v) (some (v,A)) (EY G ih v A)) n
theorem Inv.pop(h:Inv w0 G β A w){r:List Node}(hr:∀nd∈r,nd∈A.tape):Inv w0 G β (A.pop r) w:=
 ⟨h.below,h.fI,h.cW,h.loc,h.inj,h.cont,h.jk,h.cP,h.sep,fun nd dj=>h.dJ nd (hr nd dj),h.own,h.iB,h.lay,h.xg,h.jP,h.zo,h.dR⟩
theorem nW{k:NK}{us:a0e}{u:xM}(h:nC A k us=some (u,A')):∃nd r c,A.tape=nd::r/\nd.k=k/\nd.args=us/\nd.res=u/\u= .chan (some (c+1))/\A'=A.pop r:=by
 unfold nC at h;split at h
 ·cases h
 ·rename_i nd r ht;rcases ax h with⟨h1,h⟩|⟨_,h⟩
  ·rcases ax h with⟨h2,h⟩|⟨_,h⟩
   ·rcases ax h with⟨h3,h⟩|⟨_,h⟩<;>cases h
    unfold eX at h3;split at h3
    ·rename_i c hc;exact⟨nd,r,c,ht,(ph h1).symm,(mB _ _ h2).symm,rfl,hc,rfl⟩
    ·cases h3
   ·cases h
  ·cases h
def af.ri(β:af)(b:Nat)(aB:a0x):af:={β with z:=fun x=>if x=b then some aB else β.z x}
theorem af.wv(β:af)(b:Nat)(aB:a0x)(x:Nat):(β.ri b aB).z x=if x=b then some aB else β.z x:=rfl
theorem Inv.still(h:Inv w0 G β A w){l:Loc}{aB:a0x}{fz:Nat×Nat}(hk:A.get B=some blk)(hp:(∃cs,blk.obj= .cells cs)\/∃c,blk.obj= .own c)(hB:G.n<=B)(hl:β B=some l)(hh:w.heap[l.b]? =some (.cells aB e fz)):
 Inv w0 G (β.ri l.b aB) (A.put B (some {blk with ro:=true})) w/\∀N,β.grow (β.ri l.b aB) N:=by
 have hzm:∀b c,β.z b=some c->(β.ri l.b aB).z b=some c:=fun b c hz=>by
  rw[af.wv];by_cases hb:b=l.b
  ·rw[if_pos hb]
   grind [h.cP]
  grind
 have aK:β.le (β.ri l.b aB):=⟨fun _ _ e=>e,hzm,fun _ _ e=>e,rfl,rfl⟩;have qB:∀D,((A.put B (some {blk with ro:=true})).get D).isSome=true->(A.get D).isSome=true:=fun D h=>by
  grind [hk,A.gk]
 have oB:=h.fI B l hl;have gp:∀{l2:Loc} {o:Option Obj},gb (β.ri l.b aB) l2 blk o->gb (β.ri l.b aB) l2 {blk with ro:=true} o:=fun{l2 o} hb=>by
  grind [gb]
 have bv2:∀{β':af} {C:Nat},jI β' C blk->jI β' C {blk with ro:=true}:=fun{β' C} ho=>by
  grind [jI]
 refine⟨⟨h.below,h.fI,fun C hC=> ?_,h.loc,fun C C' lc qn e e' eE ha lz=>h.inj C C' lc qn e e' eE (qB C ha) (qB C' lz),fun C k lc fM e=> ?_,h.jk,fun b c hz=> ?_,fun C lc k hG e fM hs=> ?_,h.dJ,fun C k fM=> ?_,h.iB,h.lay,h.xg,h.jP,fun b c hz=> ?_,fun b hh hy=> ?_⟩,fun N=>⟨fun _ _=>rfl,hzm,fun _ _=>rfl,rfl,rfl⟩⟩
 ·have ND:A.next<=C:=hC
  grind [A.gk,h.cW]
 ·rcases A.gk B (some {blk with ro:=true}) C with⟨e2,e3⟩|⟨e2,_⟩|⟨e2,_⟩
  ·subst e3;rw[e2] at fM;cases fM;exact gp ((h.cont C blk lc hk e).mono aK)
  ·grind
  ·rw[e2] at fM;exact(h.cont C k lc fM e).mono aK
 ·rw[af.wv] at hz;by_cases hb:b=l.b
  ·grind
  ·rw[if_neg hb] at hz;exact h.cP b c hz
 ·rcases A.gk B (some {blk with ro:=true}) C with⟨e2,e3⟩|⟨e2,_⟩|⟨e2,bq⟩
  ·grind [aE.still]
  ·grind
  ·rw[e2] at fM;rw[af.wv,if_neg (fun eE=>bq (h.inj C B lc l e hl eE (by rw[fM];rfl) (by rw[hk];rfl)))];exact h.sep C lc k hG e fM hs
 ·rcases A.gk B (some {blk with ro:=true}) C with⟨e2,e3⟩|⟨e2,_⟩|⟨e2,_⟩
  ·subst e3;rw[e2] at fM;cases fM;exact bv2 ((h.own C blk hk).mono aK)
  ·grind
  ·rw[e2] at fM;exact(h.own C k fM).mono aK
 ·rw[af.wv] at hz;by_cases hb:b=l.b
  ·rw[hb];rcases(h.loc B l hl).2 with h1|h1|h1
   ·omega
   ·grind
   ·exact .inr (.inr h1)
  ·rw[if_neg hb] at hz;exact h.zo b c hz
 ·obtain⟨y1,y2,y3,y4⟩:=h.dR b hh hy;exact⟨y1,by rw[af.wv,if_neg (fun e=>y4 B l hl (by rw[hk];rfl) e.symm)];exact y2,y3,fun C lc e ha=>y4 C lc e (qB C ha)⟩
theorem Inv.D9(h:Inv w0 G β A w)(hk:A.get B=some blk)(hl:β B=none)(ho:jI β B blk'):Inv w0 G β (A.put B (some blk')) w:=by
 have qB:∀D,D≠B->∀k,(A.put B (some blk')).get D=some k->A.get D=some k:=fun D hD k h=>by
  grind [absurd,A.gk]
 have ne:∀C lc,β C=some lc->C≠B:=fun C lc e hC=>a0D
 have Ue:∀C lc,β C=some lc->((A.put B (some blk')).get C).isSome=true->(A.get C).isSome=true:=fun C lc e h=>by
  grind [hk,Option.isSome_iff_exists]
 refine⟨h.below,h.fI,fun C hC=> ?_,h.loc,fun C C' lc qn e e' eE ha lz=>h.inj C C' lc qn e e' eE (Ue C lc e ha) (Ue C' qn e' lz),fun C k lc fM e=>h.cont C k lc (qB C (ne C lc e) k fM) e,h.jk,h.cP,fun C lc k hG e fM hs=>h.sep C lc k hG e (qB C (ne C lc e) k fM) hs,h.dJ,fun C k fM=> ?_,h.iB,h.lay,h.xg,h.jP,h.zo,fun b hh hy=>⟨(h.dR b hh hy).1,(h.dR b hh hy).2.1,(h.dR b hh hy).2.2.1,fun C lc e ha=>(h.dR b hh hy).2.2.2 C lc e (Ue C lc e ha)⟩⟩
 ·have ND:A.next<=C:=hC
  grind [hk,A.gk,h.cW]
 grind [A.gk,h.own]
section
variable(ok:E.Ok P)
def Vu(w0 w:World)(G:GP)(β:af)(A:AW)(v u:xM)(A':AW):Prop:=
 ∃β',Inv w0 G β' A' w/\β.grow β' A.next/\A'.next=A.next/\∀eG,β'.grow eG A.next->∀v',aj eG v v'->aj eG u v'
def bL2(w0 w:World)(G:GP)(β:af)(A:AW)(vs us:a0e)(A':AW):Prop:=
 ∃β',Inv w0 G β' A' w/\β.grow β' A.next/\A'.next=A.next/\us.length=vs.length/\∀eG,β'.grow eG A.next->∀l',aX eG vs l'->aX eG us l'
theorem PY{ih:xM->AW->a0q}(eC:∀v A u A' β,ih v A=some (u,A')->Inv w0 G β A w->Vu w0 w G β A v u A'):∀(l:a0e) (A:AW) (us:a0e) (A':AW) (β:af),nJ ih l A=some (us,A')->Inv w0 G β A w->bL2 w0 w G β A l us A'
 |[],A,us,A',β,h,inv=>by
  cases h;exact⟨β,inv,af.cb _ _,rfl,rfl,fun _ _ _ h=>h⟩
 |v::l,A,us,A',β,h,inv=>by
  have h':(match ih v A with|some (u,A1)=>(match nJ ih l A1 with|some (us,A2)=>some (u::us,A2)|none=>none)|none=>none)=some (us,A'):=h;split at h'
  ·rename_i u A1 h1;split at h'
   ·rename_i gO A2 h2;cases h';obtain⟨aH,i1,g1,n1,f1⟩:=eC v A u A1 β h1 inv;obtain⟨cG,i2,g2,n2,e2,f2⟩:=PY eC l A1 gO A' aH h2 i1;rw[n1] at g2 f2;refine⟨cG,i2,af.iP g1 g2 (xk _),n2.trans n1,by simp[e2],fun eG hg l' hl=> ?_⟩;obtain⟨v',r',rfl,hv,hr⟩:=hl.pc;exact(f2 eG hg r' hr).cons (f1 eG (af.iP g2 hg (xk _)) v' hv)
   ·cases h'
  ·cases h'
theorem jv{c:Nat}(h:iA δ (.chan (some (c+1)))=some d):δ c=some d/\d.cell=true:=by
 have h':(δ c).bind (fun x=>if x.cell then some x else none)=some d:=h
 grind [xr]
theorem VT(h:KD A B=some A'):∃cs es ex ro ty,A.get B=some ⟨.cells cs,es,ex,ro,ty⟩/\A'=A.put B (some ⟨.cells cs,es,ex,true,ty⟩):=by
 unfold KD at h
 grind
include ok in
theorem we:∀(n:Nat) (v:xM) (A:AW) (u:xM) (A':AW) (β:af),kW E.G.n n v A=some (u,A')->Inv w0 E.G β A w->Vu w0 w E.G β A v u A'
 |0,v,A,u,A',β,h,inv=>by
  have h':bs (l7 v) (some (v,A)) none=some (u,A'):=h;replace h':=ax h';rcases h' with⟨_,h'⟩|⟨_,h'⟩<;>cases h'
  exact⟨β,inv,af.cb _ _,rfl,fun _ _ _ h=>h⟩
 |n+1,v,A,u,A',β,h,inv=>by
  have h':bs (l7 v) (some (v,A)) (EY E.G.n (kW E.G.n n) v A)=some (u,A'):=h;clear h;replace h':=ax h';rcases h' with⟨_,h'⟩|⟨dj,h'⟩
  ·cases h';exact⟨β,inv,af.cb _ _,rfl,fun _ _ _ h=>h⟩
  clear dj;have IH:=PY (w0:=w0) (w:=w) (G:=E.G) (fun v A u A' β h i=>we n v A u A' β h i);unfold EY at h';split at h'
  ·rename_i B c0;split at h'
   ·rename_i c es ex ro ty hg;replace h':=ax h';rcases h' with⟨hG,h'⟩|⟨_,h'⟩
    ·replace h':=ax h';rcases h' with⟨hs,h'⟩|⟨_,h'⟩<;>cases h'
     have vC:=xh hG;have oB:B<A.next:=Nat.lt_of_not_le fun iL=>by grind [inv.cW]
     unfold eX at hs;split at hs
     ·rename_i c1;have ho:=inv.own B _ hg;obtain⟨rows,hd,ho⟩:=ho;have FJ:=jv (δ:=β.d) (d:= .sl rows) (by exact hd);rcases ho with⟨fG,ho⟩|⟨l,cap,hl,ho,h1,h2,h3⟩
      ·cases hl:β B with
       |none=>
        refine⟨β,inv.D9 hg hl (by grind [jI,inv.own]),af.cb _ _,rfl,fun eG fA v' hv=> ?_⟩;cases hv with
        |own _ _ dZ a cap gT ha dY=>
         rw[fA.o B oB,ho] at gT;have rq:=xC gT;injection rq with q1 q2 q3;have:dZ=[]:=xE.1 q2.symm;subst q1;subst q3;subst this;refine .sym c1 (.sl rows) _ (by grind [fA.d]) rfl ?_;rw[fG];exact .rj
       |some l=>
        obtain⟨aB,Rg,k1,k2,k3,k4,k5,k6,k7⟩:=inv.cont B _ l hg hl;obtain⟨i1,g1⟩:=inv.still hg (.inr ⟨_,rfl⟩) vC hl k1;refine⟨β.ri l.b aB,i1,g1 _,rfl,fun eG fA v' hv=> ?_⟩;cases hv with
        |own _ _ dZ a cap gT ha dY=>
         have e1:=fA.o B oB;have e2:(β.ri l.b aB).o B=some (.slice none 0 0):=ho;rw[e1,e2] at gT;have rq:=xC gT;injection rq with q1 q2 q3;have:dZ=[]:=xE.1 q2.symm;subst q1;subst q3;subst this;refine .sym c1 (.sl rows) _ (by rw[fA.d];exact FJ.1) rfl ?_;rw[fG];exact .rj
      ·obtain⟨aB,Rg,k1,k2,k3,k4,k5,k6,k7⟩:=inv.cont B _ l hg hl;have xX:(D.sl rows)= .sl Rg:=xC (hd.symm.trans k3);cases xX;obtain⟨i1,g1⟩:=inv.still hg (.inr ⟨_,rfl⟩) vC hl k1;refine⟨β.ri l.b aB,i1,g1 _,rfl,fun eG fA v' hv=> ?_⟩;cases hv with
       |own _ _ dZ a u5 gT ha dY=>
        have e1:=fA.o B oB;have e2:(β.ri l.b aB).o B=some (.slice (some ⟨l.b,l.d,none⟩) rows.length cap):=ho;rw[e1,e2] at gT;have rq:=xC gT;injection rq with q1 q2 q3;subst q1;subst q3;rw[<-q2];refine .sym c1 (.sl rows) _ (by rw[fA.d];exact FJ.1) rfl ?_;have hz:eG.z l.b=some aB:=fA.z _ _ (by rw[af.wv,if_pos rfl]);by_cases bq:rows=[]
        ·rw[bq];exact .nO _ _
        ·refine .sl rows l.es l.b l.d _ aB hz bq k5 h1 a0D fun i row j d v hi hj dK=> ?_
         obtain⟨v2,w1,w2⟩:=k7 i row j d hi hj;rw[dK] at w1;cases w1;exact(w2.mono (g1 0).z).mono fA.z
     ·cases hs
    ·cases h'
   ·cases h'
  ·rename_i B o k cp;split at h'
   ·rename_i cs es ex ro ty hg;split at h'
    ·rename_i l hl;split at h'
     ·rename_i us A1 hf;split at h'
      ·rename_i u2 A2 eI;split at h'
       ·rename_i A3 bg;replace h':=ax h';rcases h' with⟨hG,h'⟩|⟨_,h'⟩<;>cases h'
        have vC:=xh hG;obtain⟨nd,r,c,ht,eJ,dV,fH,rfl,rfl⟩:=nW eI;obtain⟨F3,es2,ym,M5,qj,fA,rfl⟩:=VT bg;obtain⟨aH,i1,g1,n1,e1,f1⟩:=IH l A us A1 β hf inv;have i2:=i1.pop (r:=r) (fun x hx=>a0D);have oB:B<A.next:=Nat.lt_of_not_le fun iL=>by grind [inv.cW]
        have hq:bP aH.d nd:=ok.q _ _ (i1.dJ nd a0D);unfold bP at hq;rw[eJ] at hq;obtain⟨ds,d,q1,q2,q3⟩:=hq;rw[dV] at q1;rw[fH] at q2;obtain⟨q4,q5⟩:=jv q2;have aF:(if ds.length=k*es then(uy es k ds).map D.sl else none)=some d:=q3;split at aF
        ·rename_i lq;obtain⟨rows,iS,rfl⟩:=xp.1 aF;obtain⟨r1,r2,r3,r4⟩:=NZ iS;cases kq:aH B with
         |none=>
          have B4:=i2.D9 (blk':=⟨.cells F3,es2,ym,true,qj⟩) fA kq trivial;refine⟨aH,B4,g1,n1,fun eG ow v' hv=> ?_⟩;cases hv with
          |slice _ _ _ _ c' lc dt hn hc he=>
           grind [ow.f]
          |empty o2 a' c'=>
           have lS:rows=[]:=xE.1 r1;refine .sym c (.sl rows) _ (by rw[ow.d];exact q4) rfl ?_;rw[lS];exact .nO _ _
         |some lB=>
          obtain⟨aB,e0,fz,k1,k2,k3,k4,k5,k6,k7⟩:=i2.cont B _ lB fA kq;obtain⟨i3,g3⟩:=i2.still fA (.inl ⟨_,rfl⟩) vC kq k1;have Mv:β B=some lB:=by rw[<-g1.f B oB];exact kq
          obtain⟨bK4,e00,fz0,IJ,k02,k03,k04,k05,k06,k07⟩:=inv.cont B _ lB hg Mv;rw[k1] at IJ;cases IJ;obtain⟨l',w1,w2,w3⟩:=yC inv (show jw A B=some cs by grind [jw]) Mv o _ l hl;refine⟨aH.ri lB.b aB,i3,af.iP g1 (g3 _) (xk _),n1,fun eG ow v' hv=> ?_⟩;have hz:eG.z lB.b=some aB:=ow.z _ _ (by rw[af.wv,if_pos rfl]);have wO:aH.grow eG A.next:=af.iP (g3 _) ow (xk _);have aK:β.le eG:=inv.gC (af.iP g1 wO (xk _));have ig:=f1 eG wO l' (w1.mono aK);have FJ:eG.d=aH.d:=wO.d;cases hv with
          |slice _ _ _ _ c' lc dt hn hc he=>
           have tH:aH B=some lc:=by rw[<-wO.f B oB];exact dt
           rw[kq] at tH;cases tH;refine .sym c (.sl rows) _ a0D rfl ?_;by_cases bq:rows=[]
           ·have:k=0:=by rw[<-r1,bq];rfl
            subst this;rw[bq];exact .nO _ _
           ·have II:lB.es=es:=k07.1;have hRd:Rd eG.z (.sl rows) (.slice (some ⟨lB.b,lB.d+o,none⟩) rows.length c'):=by
             refine .sl rows es lB.b (lB.d+o) c' aB hz bq r2 a0B a0D fun i row j d v hi hj dK=> ?_
             have hd:=r4 i row j d hi hj;have fW:i*es+j<us.length:=by rw[<-pd q1];exact(xe.1 hd).1
             have o4:i*es+j<l'.length:=by rw[<-ig.1];exact fW
             have iz:=w3 (i*es+j) _ (xc o4);rw[cell_of_row w lB.b _ aB e0 fz k1,dK] at iz;cases iz;exact eU (β:=eG) (by grind [ng,xc]) (ig.2 _ _ _ (xc fW) (xc o4))
            grind
          |empty o2 a' c'=>
           have lS:rows=[]:=xE.1 r1;refine .sym c (.sl rows) _ a0D rfl ?_;rw[lS];exact .nO _ _
        ·cases aF
       ·cases h'
      ·cases h'
     ·cases h'
    ·cases h'
   ·cases h'
  ·rename_i B o;split at h'
   ·rename_i cs es ex ro ty hg;split at h'
    ·rename_i us A1 hf;split at h'
     ·rename_i u2 A2 eI;split at h'
      ·rename_i A3 bg;replace h':=ax h';rcases h' with⟨hG,h'⟩|⟨_,h'⟩<;>cases h'
       have vC:=xh hG;obtain⟨nd,r,c,ht,eJ,dV,fH,rfl,rfl⟩:=nW eI;obtain⟨F3,es2,ym,M5,qj,fA,rfl⟩:=VT bg;obtain⟨aH,i1,g1,n1,e1,f1⟩:=IH cs A us A1 β hf inv;have i2:=i1.pop (r:=r) (fun x hx=>a0D);have oB:B<A.next:=Nat.lt_of_not_le fun iL=>by grind [inv.cW]
       have hq:bP aH.d nd:=ok.q _ _ (i1.dJ nd a0D);unfold bP at hq;rw[eJ] at hq;obtain⟨ds,d,q1,q2,q3⟩:=hq;rw[dV] at q1;rw[fH] at q2;obtain⟨q4,q5⟩:=jv q2;have aF:some (D.ptr ds o)=some d:=q3;cases aF;cases kq:aH B with
       |none=>
        have B4:=i2.D9 (blk':=⟨.cells F3,es2,ym,true,qj⟩) fA kq trivial;refine⟨aH,B4,g1,n1,fun eG ow v' hv=> ?_⟩;cases hv with
        |ptr _ _ lc dt=>grind [ow.f]
       |some lB=>
        obtain⟨aB,e0,fz,k1,k2,k3,k4,k5,k6,k7⟩:=i2.cont B _ lB fA kq;obtain⟨i3,g3⟩:=i2.still fA (.inl ⟨_,rfl⟩) vC kq k1;have Mv:β B=some lB:=by rw[<-g1.f B oB];exact kq
        obtain⟨bK4,e00,fz0,IJ,k02,k03,k04,k05,k06,k07⟩:=inv.cont B _ lB hg Mv;rw[k1] at IJ;cases IJ;refine⟨aH.ri lB.b aB,i3,af.iP g1 (g3 _) (xk _),n1,fun eG ow v' hv=> ?_⟩;have hz:eG.z lB.b=some aB:=ow.z _ _ (by rw[af.wv,if_pos rfl]);have wO:aH.grow eG A.next:=af.iP (g3 _) ow (xk _);have aK:β.le eG:=inv.gC (af.iP g1 wO (xk _));have FJ:eG.d=aH.d:=wO.d;have lq:=pd q1;cases hv with
        |ptr _ _ lc dt=>
         have tH:aH B=some lc:=by rw[<-wO.f B oB];exact dt
         rw[kq] at tH;cases tH;refine .sym c (.ptr ds o) _ a0D rfl ?_
         let l':=(List.range cs.length).map fun j=>aB.getD (lB.d+j) undef
         have fj:∀j,j<cs.length->l'[j]? =some (aB.getD (lB.d+j) undef):=fun j hj=>by
          grind
         have ig:=f1 eG wO l' ⟨by simp[l'],fun j v v' hv gz=>by
          have hj:=(xe.1 hv).1;rw[fj j hj] at gz;cases gz;obtain⟨v2,w1,w2⟩:=k04 j v hv;have:aB.getD (lB.d+j) undef=v2:=by rw[Array.getD_eq_getD_getElem?,w1];rfl
          grind [w2.mono]⟩
         refine .ptr ds o lB.b lB.d aB hz a0D fun j d v hj dK=> ?_
         have ja:j<us.length:=by rw[<-lq];exact(xe.1 hj).1
         have Uo:l'[j]? =some v:=by
          rw[fj j a0B,Array.getD_eq_getD_getElem?,dK];rfl
         exact eU (β:=eG) (by grind [ng,xc]) (ig.2 _ _ _ (xc ja) Uo)
      ·cases h'
     ·cases h'
    ·cases h'
   ·cases h'
  ·rename_i l;split at h'
   ·rename_i us A1 hf;cases h';obtain⟨aH,i1,g1,n1,e1,f1⟩:=IH l A us A' β hf inv;refine⟨aH,i1,g1,n1,fun eG ow v' hv=> ?_⟩;cases hv with
    |agg _ p' hp h2=>exact aj.nu (f1 eG ow p' ⟨hp,h2⟩)
   ·cases h'
  ·rename_i l;split at h'
   ·rename_i us A1 hf;cases h';obtain⟨aH,i1,g1,n1,e1,f1⟩:=IH l A us A' β hf inv;refine⟨aH,i1,g1,n1,fun eG ow v' hv=> ?_⟩;cases hv with
    |tuple _ p' hp h2=>exact aj.sK (f1 eG ow p' ⟨hp,h2⟩)
   ·cases h'
  ·cases h'
end
def af.lI(β:af)(B:Nat)(v:xM):af:={β with o:=fun X=>if X=B then some v else β.o X}
theorem af.J9(v:xM)(h:β.o B=none):β.le (β.lI B v):=
 ⟨fun _ _ e=>e,fun _ _ e=>e,fun X u e=>by
  show(if X=B then some v else β.o X)=some u
  grind,rfl,rfl⟩
theorem af.AE(β:af)(B:Nat)(v:xM):β.grow (β.lI B v) B:=
 ⟨fun _ _=>rfl,fun _ _ e=>e,fun X hX=>by show(if X=B then some v else β.o X)=β.o X;grind,rfl,rfl⟩
theorem Inv.relabel(h:Inv w0 G β A w){k:aE}{v:xM}(hk:A.get B=some k)(hB:B<A.next)(ho:β.o B=none)(hs:k.still=false)
 (gp:∀l,β B=some l->gb (β.lI B v) l blk' w.heap[l.b]?) (kB:jI (β.lI B v) B blk'):Inv w0 G (β.lI B v) (A.put B (some blk')) w:=by
 have aK:=af.J9 (β:=β) v ho;have qB:∀D,((A.put B (some blk')).get D).isSome=true->(A.get D).isSome=true:=fun D h=>by
  grind [hk,A.gk]
 refine⟨h.below,h.fI,fun C hC=> ?_,h.loc,fun C C' lc qn e e' eE ha lz=>h.inj C C' lc qn e e' eE (qB C ha) (qB C' lz),fun C kk lc fM e=> ?_,h.jk,h.cP,fun C lc kk hG e fM ko=> ?_,h.dJ,fun C kk fM=> ?_,fun C u e=> ?_,h.lay,h.xg,h.jP,h.zo,fun b hh hy=>⟨(h.dR b hh hy).1,(h.dR b hh hy).2.1,(h.dR b hh hy).2.2.1,fun C lc e ha=>(h.dR b hh hy).2.2.2 C lc e (qB C ha)⟩⟩
 ·have ND:A.next<=C:=hC
  grind [A.gk,h.cW]
 ·rcases A.gk B (some blk') C with⟨e2,e3⟩|⟨e2,_⟩|⟨e2,_⟩
  ·subst e3;rw[e2] at fM;cases fM;exact gp lc e
  ·grind
  ·rw[e2] at fM;exact(h.cont C kk lc fM e).mono aK
 ·rcases A.gk B (some blk') C with⟨e2,e3⟩|⟨e2,_⟩|⟨e2,_⟩
  ·subst e3;exact h.sep C lc k hG e hk hs
  ·grind
  ·rw[e2] at fM;exact h.sep C lc kk hG e fM ko
 ·rcases A.gk B (some blk') C with⟨e2,e3⟩|⟨e2,_⟩|⟨e2,_⟩
  ·grind
  ·grind
  ·rw[e2] at fM;exact(h.own C kk fM).mono aK
 ·have e':(if C=B then some v else β.o C)=some u:=e;by_cases hC:C=B
  ·show C<A.next
   grind
  ·rw[if_neg hC] at e';exact h.iB C u e'
def R3(G:Nat)(es:Nat)(e:xN)(A:AW)(s:xM):Option (xM×AW×Option Nat):=
 match s with
 | .slice none 0 0=>some (.slice none 0 0,A,none)
 | .iface B (.chan (some (_+1)))=>match A.get B with
  |some ⟨.own c,es',_,false,ty⟩=>bs (Nat.beq es es'&&Nat.beq ty e&&Nat.ble G B) (some (c,A,some B)) none
  |_=>none
 | .slice (some ⟨B,o,none⟩) n _=>match A.get B with
  |some ⟨.cells cs,es',_,_,_⟩=>match oK (Nat.mul n es') (p9 o cs) with
   |some l=>match nJ (kW G 3) l A with
    |some (us,A1)=>match nC A1 (.cP es' n) us with
     |some (u,A2)=>match A2.get B with
      |some ⟨.cells _,es2,_,false,ty⟩=>bs (Nat.beq es es2&&Nat.beq es es'&&Nat.beq ty e&&Nat.ble G B&&bs (Nat.beq B tq) false true) (some (u,A2,some B)) none
      |_=>none
     |none=>none
    |none=>none
   |none=>none
  |_=>none
 |_=>none
def Ko(E:au)(t:xN):Option (Row×xN):=
 match E.ti.get none t with
 |some ⟨.slice e,_,_,_,_⟩=>match E.ti.get none e with
  |some re=>bs (re.rb&&Nat.beq (bA re.zero) re.size&&Nat.ble 1 re.size&&Nat.blt e jS) (some (re,e)) none
  |none=>none
 |_=>none
def Bm(E:au)(tx:xN):Bool:=match E.ti.get none tx with|some ⟨.slice _,_,_,_,_⟩=>true|some ⟨.string,_,_,_,_⟩=>true|_=>false
def Fu(k:a0r)(A:AW):AW:=match k with|some B=>A.put B none|none=>A
def yY(A:AW)(kill:a0r)(u:xM)(es:Nat)(e:xN):Option AW:=
 match((Fu kill A).add ⟨.cells [],es,false,false,e⟩).get A.next with
 |some ⟨.cells _,_,_,false,_⟩=>some (((Fu kill A).add ⟨.cells [],es,false,false,e⟩).put A.next (some ⟨.own u,es,false,false,e⟩))
 |_=>none
def TQ(E:au)(A:AW)(t tx:xN)(s x:xM):a0q:=
 match Ko E t with
 |some (re,e)=>bs (Bm E tx) (match R3 E.G.n re.size e A s with
  |some (c,A1,kill)=>match kW E.G.n 4 x A1 with
   |some (y,A2)=>match nC A2 (.app re.size re.bytes) [c,y] with
    |some (u,A3)=>bs (match kill with|some B=>(match A3.get B with|some ⟨_,_,_,false,_⟩=>true|_=>false)|none=>true) (match yY A3 kill u re.size e with|some A4=>some (.iface A3.next u,A4)|none=>none) none
    |none=>none
   |none=>none
  |none=>none) none
 |none=>none
section
theorem Inv.Ke(h:Inv w0 E.G β A w)(blk:aE)(hp:r7 blk:=by intro c h;cases h):Inv w0 E.G β (A.add blk) w:=by
 have hn:A.get A.next=none:=h.cW _ (xk _);have hb:β A.next=none:=by
  cases hc:β A.next with
  |none=>rfl
  |some l=>exact absurd (h.fI _ l hc) (Nat.lt_irrefl _)
 have ia:∀B l,β B=some l->(A.add blk).get B=A.get B:=fun B l e=>by
  grind [A.ni]
 refine⟨h.below,fun B l e=>Nat.lt_succ_of_lt (h.fI B l e),fun B hB=> ?_,h.loc,fun B B' l l' e e' eE ha lz=> ?_,fun B k l hk e=> ?_,h.jk,h.cP,fun B l kb hG e ha hs=> ?_,h.dJ,fun B k hk=> ?_,fun B v e=>Nat.lt_succ_of_lt (h.iB B v e),h.lay,h.xg,h.jP,h.zo,fun b hh hy=>⟨(h.dR b hh hy).1,(h.dR b hh hy).2.1,(h.dR b hh hy).2.2.1,fun C lc e ha=>(h.dR b hh hy).2.2.2 C lc e a0D⟩⟩
 ·have vE:A.next+1<=B:=hB
  grind [A.ni,h.cW]
 ·grind [h.inj]
 ·grind [hk,h.cont]
 ·grind [h.sep]
 grind [hk,A.ni,hp.ok,h.own]
end
section
variable(ok:E.Ok P)
include ok in
theorem aC6{re:Row}(h:Ko E t=some (re,e)):∃ie z,P.underlying t=some (.slice e)/\P.info? e=some ie/\ie.size=re.size/\ie.bytes=re.bytes/\ie.zero=some z/\z.cells.size=re.size/\1<=re.size/\e≠jS:=by
 unfold Ko at h;split at h
 ·rename_i e0 _ _ _ _ hr;split at h
  ·rename_i r dU;replace h:=ax h;rcases h with⟨hb,h⟩|⟨_,h⟩
   ·cases h;simp only [xf,du] at hb;obtain⟨⟨⟨hz,hl⟩,h1⟩,h4⟩:=hb;obtain⟨_,ie,jb,hs,ue,eP⟩:=ok.ti e re dU;obtain⟨z,lP,Nf⟩:=eP hz;have:e<jS:=xh h4;exact⟨ie,z,(ok.ti t _ hr).1,jb,hs,ue,lP,by simp_all,xh h1,Nat.ne_of_lt this⟩
   ·cases h
  ·cases h
 ·cases h
theorem Qi{z:a0n}(bg:wk z w){es:Nat}{tx:xN}(tW:(∃e',P.underlying tx=some (.slice e'))\/P.underlying tx=some .string)(dS:1<=es){rows:a0b}(h:Hp es d=some rows)(hx:Rd z d x'):
 ∃dI,Src P es tx x' rows.length dI w/\dI.length=rows.length*es/\∀(i:Nat) (row:a0d) (j:Nat) (d:D),rows[i]? =some row->row[j]? =some d->∃v,dI[i*es+j]? =some v/\Rd z d v:=by
 unfold Hp at h;split at h
 ·rename_i iy;split at h
  ·rename_i fB;cases h;rw[List.all_eq_true] at fB;have fb:∀row∈rows,row.length=es/\∀d∈row,d.cell=true:=fun row hr=>by
    grind
   cases hx with
   |rj=>exact⟨[],⟨tW,fun _=>rfl,run_firstCells_none w es 0 0 0,run_firstCells_none w.drew es 0 0 0,a0C,fun _ h=>by cases h⟩,a0C,fun i row j d hi=>by simp at hi⟩
   |nO a c=>exact⟨[],⟨tW,fun _=>rfl,run_firstCells_some w es 0 a 0 c [] a0C (fun j u hu=>by simp at hu),run_firstCells_some w.drew es 0 a 0 c [] a0C (fun j u hu=>by simp at hu),a0C,fun u hu=>by cases hu⟩,a0C,fun i row j d hi=>by simp at hi⟩
   |sl _ gB b o c cells hz bq bH2 hc hs hh=>
    have e0:gB=es:=by
     obtain⟨r0,fG⟩:=List.exists_mem_of_ne_nil rows bq;rw[<-bH2 r0 fG];exact(fb r0 fG).1
    subst e0;obtain⟨e1,fz,hb⟩:=bg b cells hz
    let dI:=(List.range (rows.length*gB)).map fun j=>cells.getD (o+j) undef
    have hn:∀j,j<rows.length*gB->dI[j]? =some (cells.getD (o+j) undef):=fun j hj=>by
     grind
    have aD:dI.length=rows.length*gB:=by simp[dI]
    have aK:rows.length*gB<=c*gB:=xD _ hc;have iz:∀j,j<rows.length*gB->cells[o+j]? =some (cells.getD (o+j) undef):=fun j hj=>by
     have:o+j<cells.size:=a0B
     simp[this]
    have EQ:∀j,j<rows.length*gB->∃row d,rows[j/gB]? =some row/\row[j%gB]? =some d/\d.cell=true:=fun j hj=>by
     have h1:j/gB<rows.length:=by rw[Nat.div_lt_iff_lt_mul a0B];exact hj
     have h2:j%gB<gB:=Nat.mod_lt _ a0B;have h3:=fb _ (List.getElem_mem h1);have h4:j%gB<(rows[j/gB]).length:=by rw[h3.1];exact h2
     exact⟨rows[j/gB],(rows[j/gB])[j%gB],xc h1,xc h4,h3.2 _ (List.getElem_mem h4)⟩
    have ao:∀j u,dI[j]? =some u->w.cell? ((⟨b,o,none⟩:Addr).add j)=some u:=fun j u hu=>by
     have hj:j<rows.length*gB:=by rw[<-aD];exact(xe.1 hu).1
     grind [Addr.add_mid,cell_of_row]
    refine⟨dI,⟨tW,fun _=>rfl,run_firstCells_some w gB rows.length _ rows.length c dI aD ao,run_firstCells_some w.drew gB rows.length _ rows.length c dI aD (by simpa using ao),aD,fun u hu=> ?_⟩,aD,fun i row j d hi hj=> ?_⟩
    ·obtain⟨j,hj,rfl⟩:=List.getElem_of_mem hu;have pS:j<rows.length*gB:=by rw[<-aD];exact hj
     obtain⟨row,d,q1,q2,q3⟩:=EQ j pS;have:=hh (j/gB) row (j%gB) d (cells.getD (o+j) undef) q1 q2 (by
      rw[show o+(j/gB*gB+j%gB)=o+j by rw[Nat.mul_comm];rw[Nat.div_add_mod]]
      grind)
     have e9:dI[j]=cells.getD (o+j) undef:=by
      have:=hn j pS;rw[xc hj] at this;exact xC this
     rw[e9];exact(Gv this q3).2
    ·have fW:=(xe.1 hi).1;have ja:j<gB:=by rw[<-(fb row (xu hi)).1];exact(xe.1 hj).1
     have bk:i*gB+j<rows.length*gB:=by
      have:(i+1)*gB<=rows.length*gB:=xD _ fW;rw[Nat.add_mul] at this;omega
     grind
  ·cases h
 ·rename_i l;split at h
  ·rename_i bc;subst bc;cases h;cases hx;refine⟨byteCells ⟨⟨l⟩⟩,?_,?_,fun i row j d hi hj=> ?_⟩
   ·rw[xm];exact⟨tW,fun _=>rfl,firstCells_string ⟨⟨l⟩⟩ w,firstCells_string ⟨⟨l⟩⟩ w.drew,by rw[byteCells_length,Nat.mul_one];rfl,fun u hu=>by
     obtain⟨_,_,rfl⟩:=xJ.1 hu;rfl⟩
   ·simp[byteCells]
   ·rw[xx] at hi;obtain⟨b,hb,rfl⟩:=xp.1 hi;have j5:j=0:=by have:=(xe.1 hj).1;simp at this;exact this
    subst j5;simp at hj;subst hj;refine⟨.int .u8 (b.toNat:Nat),?_,.int _ _⟩
    grind [byteCells]
  ·cases h
 ·cases h
theorem lD{v:xM}(h:aZ δ v=some d):bR δ v=some d:=by
 unfold bR;split
 ·cases h
 ·exact h
def bq5(G:Nat)(β:af)(A:AW)(w:World)(s':xM)(es:Nat)(e:xN)(kill:a0r)(rows:a0b):Prop:=
 ∃a cap,s'= .slice a rows.length cap/\(∀row∈rows,row.length=es)/\
  ((a=none/\rows=[]/\cap=0)\/∃B l d0 aB,kill=some B/\β B=some l/\G<=B/\(∃blk,A.get B=some blk)/\a=some ⟨l.b,d0,none⟩/\w.heap[l.b]? =some (.cells aB e (0,0))/\aB.size=l.sz/\l.es=es/\l.d<=d0/\rows.length<=cap/\d0+cap*es<=l.sz/\
   ∀(i:Nat) (row:a0d) (j:Nat) (d:D),rows[i]? =some row->row[j]? =some d->∃v,aB[d0+(i*es+j)]? =some v/\Rd β.z d v)
include ok in
theorem bd1{es:Nat}(I6:e≠jS){A1:AW}{s s' c:xM}{kill:a0r}(h:R3 E.G.n es e A s=some (c,A1,kill))(inv:Inv w0 E.G β A w)(hs:aj β s s'):
 ∃aH rows,Inv w0 E.G aH A1 w/\β.grow aH A.next/\A1.next=A.next/\aZ aH.d c=some (.sl rows)/\bq5 E.G.n aH A1 w s' es e kill rows:=by
 unfold R3 at h;split at h
 ·cases h;cases hs;exact⟨β,[],inv,af.cb _ _,rfl,rfl,none,0,rfl,(fun _ h=>by cases h),.inl ⟨rfl,rfl,rfl⟩⟩
 ·rename_i B c1;split at h
  ·rename_i c2 es' ex ty hg;replace h:=ax h;rcases h with⟨hb,h⟩|⟨_,h⟩<;>cases h
   simp only [xf] at hb;obtain⟨⟨h1,h2⟩,h3⟩:=hb;have e1:=xb h1;have e2:=xb h2;have e3:=xh h3;subst e1;subst e2;obtain⟨rows,hd,ho⟩:=inv.own B _ hg;refine⟨β,rows,inv,af.cb _ _,rfl,hd,?_⟩;cases hs with
   |own _ _ dZ a cap gT ha dY=>
    rcases ho with⟨fG,ho⟩|⟨l,as8,hl,ho,q1,q2,q3⟩
    ·rw[ho] at gT;have rq:=xC gT;injection rq with r1 r2 r3;refine⟨none,0,a0D,(fun row hr=>a0D),.inl ⟨rfl,fG,rfl⟩⟩
    ·rw[ho] at gT;have rq:=xC gT;injection rq with r1 r2 r3;obtain⟨aB,zl,k1,k2,k3,k4,k5,k6,k7⟩:=inv.cont B _ l hg hl;have xX:(D.sl rows)= .sl zl:=xC (hd.symm.trans k3);cases xX;have qo:l.es=es:=k4;refine⟨some ⟨l.b,l.d,none⟩,as8,a0D,(fun row hr=>a0D),.inr ⟨B,l,l.d,aB,rfl,hl,e3,⟨_,hg⟩,rfl,k1,k2,qo,xk _,q1,a0D,fun i row j d hi hj=>a0D⟩⟩
  ·cases h
 ·rename_i B o n cp;split at h
  ·rename_i cs es' ex ro ty hg;split at h
   ·rename_i l hl;split at h
    ·rename_i us A2 hf;split at h
     ·rename_i u A3 eI;split at h
      ·rename_i F3 es2 ym qj fA;replace h:=ax h;rcases h with⟨hb,h⟩|⟨_,h⟩<;>cases h
       simp only [xf] at hb;obtain⟨⟨⟨⟨h1,h2⟩,h3⟩,h4⟩,h5⟩:=hb;have e1:=xb h1;have e2:=xb h2;have e3:=xb h3;have e4:=xh h4;subst e1;subst e2;subst e3;obtain⟨nd,r,c1,ht,eJ,dV,fH,rfl,rfl⟩:=nW eI;obtain⟨aH,i1,g1,n1,el,f1⟩:=PY (w0:=w0) (w:=w) (G:=E.G) (fun v A u A' β h i=>we ok 3 v A u A' β h i) l A us A2 β hf inv;have i2:=i1.pop (r:=r) (fun x hx=>a0D);have oB:B<A.next:=Nat.lt_of_not_le fun iL=>by grind [inv.cW]
       have hq:bP aH.d nd:=ok.q _ _ (i1.dJ nd a0D);unfold bP at hq;rw[eJ] at hq;obtain⟨ds,d,q1,q2,q3⟩:=hq;rw[dV] at q1;rw[fH] at q2;obtain⟨q4,q5⟩:=jv q2;have aF:(if ds.length=n*es then(uy es n ds).map D.sl else none)=some d:=q3;split at aF
       ·rename_i lq;obtain⟨rows,iS,rfl⟩:=xp.1 aF;obtain⟨r1,r2,r3,r4⟩:=NZ iS;refine⟨aH,rows,i2,g1,n1,?_,?_⟩
        ·show(aH.d c1).bind _=_;rw[q4];rfl
        ·cases hs with
         |slice _ _ _ _ c' lB kq hn hc he=>
          have al7:aH B=some lB:=by rw[g1.f B oB];exact kq
          obtain⟨aB,e0,fz,k1,k2,k3,k4,k5,k6,k7⟩:=i2.cont B _ lB fA al7;have lT:fz=(0,0):=k5 rfl;subst lT;have he0:e0=qj:=k7.2 I6;subst he0;have dS:lB.es=es:=k7.1;obtain⟨l',w1,w2,w3⟩:=yC inv (show jw A B=some cs by grind [jw]) kq o _ l hl;have aK:β.le aH:=inv.gC g1;have ig:=f1 aH (af.cb _ _) l' (w1.mono aK);rw[<-r1] at hn⊢;refine⟨some ⟨lB.b,lB.d+o,none⟩,c',rfl,r2,.inr ⟨B,lB,lB.d+o,aB,rfl,al7,e4,⟨_,fA⟩,rfl,k1,k2,dS,a0B,a0B,a0D,fun i row j d hi hj=> ?_⟩⟩;have hd:=r4 i row j d hi hj;have fW:i*es+j<us.length:=by rw[<-pd q1];exact(xe.1 hd).1
          have o4:i*es+j<l'.length:=by rw[<-ig.1];exact fW
          have iz:=w3 (i*es+j) _ (xc o4);rw[cell_of_row w lB.b _ aB e0 (0,0) k1] at iz;exact⟨_,iz,eU (β:=aH) (ng q1 hd (xc fW)) (ig.2 _ _ _ (xc fW) (xc o4))⟩
         |empty o2 a' c'=>
          exact absurd h5 a0I
       ·cases aF
      ·cases h
     ·cases h
    ·cases h
   ·cases h
  ·cases h
 ·cases h
include ok in
theorem bd8{tx:xN}{s s' x v:xM}(h:TQ E A t tx s x=some (v,A'))(inv:Inv w0 E.G β A w)(hs:aj β s s')(hx:aj β x x'):hY w0 E.G β A ((Builtin.append_ #[t,tx] ty #[s',x']).run P w) v A'/\A.next<=A'.next:=by
 unfold TQ at h;split at h;rotate_left
 ·cases h
 rename_i re e her;obtain⟨ie,z,hu,jb,lQ,ue,hz,Nb,h1,I6⟩:=aC6 ok her;replace h:=ax h;rcases h with⟨qT,h⟩|⟨_,h⟩;rotate_left
 ·cases h
 split at h;rotate_left
 ·cases h
 rename_i c A1 kill bw8;split at h;rotate_left
 ·cases h
 rename_i y A2 hfy;split at h;rotate_left
 ·cases h
 rename_i u A3 eI;replace h:=ax h;rcases h with⟨bG5,h⟩|⟨_,h⟩;rotate_left
 ·cases h
 split at h;rotate_left
 ·cases h
 rename_i A4 jj;cases h;obtain⟨aH,rows,i1,g1,n1,hdc,a,cap,rfl,ot,bk1⟩:=bd1 ok I6 bw8 inv hs;obtain⟨cG,i2,g2,n2,f2⟩:=we ok (w0:=w0) (w:=w) 4 x A1 y A2 aH hfy i1;obtain⟨nd,r,cu,ht,eJ,dV,fH,rfl,rfl⟩:=nW eI;have i3:=i2.pop (r:=r) (fun x hx=>a0D);rw[n1] at g2 n2;have g12:β.grow cG A.next:=af.iP g1 g2 (xk _);have oZ:aj cG y x':=f2 cG (af.cb _ _) x' (hx.mono (inv.gC g12));have hq:bP cG.d nd:=ok.q _ _ (i2.dJ nd a0D);unfold bP at hq;rw[eJ] at hq;obtain⟨ds,d,q1,q2,q3⟩:=hq;rw[dV] at q1;rw[fH] at q2;obtain⟨q4,q5⟩:=jv q2;obtain⟨dc,dy,rfl,e1,e2⟩:=je q1;rw[lD (show aZ cG.d c=some (.sl rows) by grind [g2.d])] at e1;cases e1;have aF:ZS re.size re.bytes (.sl rows) dy=some d:=q3;obtain⟨nr,Mq,q6⟩:=xr.1 (show(Hp re.size dy).bind _=some d from aF);split at q6;rotate_left
 ·cases q6
 rename_i iW;cases q6;unfold mK at iW;simp only [xf,decide_eq_true_iff] at iW;obtain⟨cy6,cy5⟩:=iW;have tW:(∃e',P.underlying tx=some (.slice e'))\/P.underlying tx=some .string:=by
  unfold Bm at qT;split at qT
  ·rename_i hr;exact .inl ⟨_,(ok.ti tx _ hr).1⟩
  ·rename_i hr;exact .inr (ok.ti tx _ hr).1
  ·cases qT
 obtain⟨dI,src,lR,bj4⟩:=Qi i2.cP tW h1 Mq (eU e2 oZ);rw[<-lQ] at src;generalize NE:Fu kill (A2.pop r)=Ak;have ik:Inv w0 E.G cG Ak w:=by
  rw[<-NE];cases kill with
  |none=>exact i3
  |some B=>exact i3.kill B
 have SX:Ak.next=A.next:=by
  rw[<-NE];cases kill with
  |none=>exact n2
  |some B=>exact n2
 have j4:(A2.pop r).next=Ak.next:=by rw[SX];exact n2
 unfold yY at jj;rw[NE] at jj;split at jj;rotate_left
 ·cases jj
 rename_i Vg Ve Vc TZ jc;cases jj;rw[j4] at jc⊢;have wS:∃blk,(Ak.add ⟨.cells [],re.size,false,false,e⟩).get Ak.next=some blk/\blk.still=false:=⟨_,jc,rfl⟩;have hAn:Ak.next<=((Ak.add ⟨.cells [],re.size,false,false,e⟩).put Ak.next (some ⟨.own (.chan (some (cu+1))),re.size,false,false,e⟩)).next:=Nat.le_succ _;have cc2:(rows++nr).length=rows.length+nr.length:=xa;have ah3:∀(iF:af) (w':World) (l2:Loc) (u5:Nat),Inv w0 E.G iF (Ak.add ⟨.cells [],re.size,false,false,e⟩) w'->cG.grow iF Ak.next->iF Ak.next=some l2->iF.o Ak.next=none->l2.es=re.size->(rows++nr).length<=u5->l2.d+u5*re.size<=l2.sz->
  (∃aB,w'.heap[l2.b]? =some (.cells aB e (0,0))/\aB.size=l2.sz/\∀(i:Nat) (row:a0d) (j:Nat) (d:D),(rows++nr)[i]? =some row->row[j]? =some d->∃v,aB[l2.d+(i*re.size+j)]? =some v/\Rd iF.z d v)->
  ∃Cl v',v'= .slice (some ⟨l2.b,l2.d,none⟩) (rows++nr).length u5/\aj Cl (.iface Ak.next (.chan (some (cu+1)))) v'/\Inv w0 E.G Cl ((Ak.add ⟨.cells [],re.size,false,false,e⟩).put Ak.next (some ⟨.own (.chan (some (cu+1))),re.size,false,false,e⟩)) w'/\β.grow Cl A.next:=fun iF w' l2 u5 iv g hb ho dS bF aS Eh=>by
  obtain⟨blk,bY,bM⟩:=wS;have UK:iF.d=cG.d:=g.d;have cv6:∀row∈rows++nr,row.length=re.size:=fun row hr=>by
   rcases xF.1 hr with hr|hr
   ·grind
   ·unfold Hp at Mq
    grind
  have fR:∀(B:Nat) (v:xM),aZ (iF.lI B v).d (.chan (some (cu+1)))=some (.sl (rows++nr)):=fun B v=>by
   show((iF.lI B v).d cu).bind _=_;have:(iF.lI B v).d=cG.d:=UK
   grind
  obtain⟨aB,c1,c2,c3⟩:=Eh;have rA:=iv.relabel (B:=Ak.next) (blk':=⟨.own (.chan (some (cu+1))),re.size,false,false,e⟩) (v:= .slice (some ⟨l2.b,l2.d,none⟩) (rows++nr).length u5) bY (Nat.lt_succ_self _) ho bM (fun l hl=>by
   rw[hb] at hl;cases hl;refine⟨aB,rows++nr,c1,c2,fR _ _,dS,(fun row hr=>a0D),?_,fun i row j d hi hj=>by rw[dS];exact c3 i row j d hi hj⟩;rw[dS];have:(rows++nr).length*re.size<=u5*re.size:=xD _ bF;omega) ⟨rows++nr,fR _ _,.inr ⟨l2,u5,hb,by show(if Ak.next=Ak.next then _ else _)=_;grind,bF,a0D,dS⟩⟩
  refine⟨_,_,rfl,?_,rA,?_⟩
  ·exact .own Ak.next cu (rows++nr) _ u5 (by show(if Ak.next=Ak.next then _ else _)=_;grind) (.inr ⟨l2,hb,rfl⟩) (by show iF.d cu=_;grind)
  ·rw[<-SX];exact af.iP (af.iP a0D g (xk _)) (af.AE iF Ak.next _) (xk _)
 refine⟨?_,a0D⟩;have pQ:∀iF:af,cG.o=iF.o->iF.o Ak.next=none:=fun iF e=>by
  rw[<-e];cases hq:cG.o Ak.next with
  |none=>rfl
  |some v=>have:=ik.iB _ _ hq;omega
 have ZI:∀(iF:af) (aB:a0x) (d0:Nat),(∀b c,cG.z b=some c->iF.z b=some c)->(∀(i:Nat) (row:a0d) (j:Nat) (d:D),rows[i]? =some row->row[j]? =some d->∃v,aB[d0+(i*re.size+j)]? =some v/\Rd iF.z d v)->(∀j v,dI[j]? =some v->aB[d0+rows.length*re.size+j]? =some v)->
  ∀(i:Nat) (row:a0d) (j:Nat) (d:D),(rows++nr)[i]? =some row->row[j]? =some d->∃v,aB[d0+(i*re.size+j)]? =some v/\Rd iF.z d v:=fun iF aB d0 hz ho hn i row j d hi hj=>by
  by_cases bk:i<rows.length
  ·rw[xw bk] at hi;exact ho i row j d hi hj
  ·rw[xq a0B] at hi;obtain⟨v,v1,v2⟩:=bj4 _ row j d hi hj;refine⟨v,?_,v2.mono hz⟩;have:=hn _ v v1;rw[show d0+rows.length*re.size+((i - rows.length)*re.size+j)=d0+(i*re.size+j) by
    have e7:rows.length*re.size+(i - rows.length)*re.size=i*re.size:=by rw[<-Nat.add_mul];congr 1;omega
    omega] at this
   exact this
 have f1':((rows.length+nr.length:Nat):Int)<=9223372036854775807:=a0B
 have HA:∀(n9:Option Addr) (eT:a0e),(Builtin.firstCells ie.size rows.length (.slice n9 rows.length cap)).run P w.drew= .ok eT.toArray w.drew->eT.length=rows.length*re.size->cap<rows.length+nr.length->(∀(i:Nat) (row:a0d) (j:Nat) (d:D),rows[i]? =some row->row[j]? =some d->∃v,eT[i*re.size+j]? =some v/\Rd cG.z d v)->
  hY w0 E.G β A ((Builtin.append_ #[t,tx] ty #[.slice n9 rows.length cap,x']).run P w) (.iface Ak.next (.chan (some (cu+1)))) ((Ak.add ⟨.cells [],re.size,false,false,e⟩).put Ak.next (some ⟨.own (.chan (some (cu+1))),re.size,false,false,e⟩)):=fun n9 eT kU rp bk vq=>by
  have aM:=run_append_grow_src (P:=P) w t tx ty e ie z hu jb hz n9 rows.length cap eT kU x' nr.length dI src bk f1' (growslice_fits bk a0D);have iL:=grownCap_ge w (rows.length+nr.length) cap e;obtain⟨vG,oE⟩:=JU (E:=E) ik [] [] ((eT++dI).toArray++Builtin.zeroCells z.cells (grownCap w (rows.length+nr.length) cap e - (rows.length+nr.length))).toList e re.size ((eT++dI).toArray++Builtin.zeroCells z.cells (grownCap w (rows.length+nr.length) cap e - (rows.length+nr.length))) a0C (fun β' hb=>aX.nil β');have aS:((eT++dI).toArray++Builtin.zeroCells z.cells (grownCap w (rows.length+nr.length) cap e - (rows.length+nr.length))).size=grownCap w (rows.length+nr.length) cap e*re.size:=by
   simp only [Array.size_append,List.size_toArray,xa,Jn,Nb,lR,rp,<-Nat.add_mul]
   congr 1
   omega
  obtain⟨Cl,v',o9,vJ,Jj,Vf⟩:=ah3 _ _ ⟨w.heap.size,0,re.size,((eT++dI).toArray++Builtin.zeroCells z.cells (grownCap w (rows.length+nr.length) cap e - (rows.length+nr.length))).size⟩ (grownCap w (rows.length+nr.length) cap e) vG oE (ju _ _ _) (pQ _ rfl) rfl a0D a0D ⟨_,heap_alloc_new w.drew _,rfl,ZI _ _ 0 (fun _ _ h=>h) (fun i row j d hi hj=>by
   obtain⟨v,v1,v2⟩:=vq i row j d hi hj;refine⟨v,?_,v2⟩;rw[Nat.zero_add,Array.getElem?_append_left (by have:=(xe.1 v1).1;simp;omega)];have:=(xe.1 v1).1;simp[xw this,v1]) (fun j v hj=>by
   have fV:=(xe.1 hj).1;rw[Nat.zero_add,Array.getElem?_append_left a0F];rw[<-rp];simp[xq,hj])⟩
  refine⟨Cl,v',_,?_,vJ,Jj,Vf⟩
  grind
 rcases bk1 with⟨rfl,rfl,rfl⟩|⟨B,l,d0,aB,bw0,hl,vC,⟨cA0,cc4⟩,rfl,hh,cJ,cw8,vA,sf,iW,Eh⟩
 ·by_cases sv:nr.length=0
  ·have EP:nr=[]:=xE.1 sv;rw[EP] at src;have aM:=F9 (P:=P) (ty:=ty) hu jb src none 0 0 (xk _);have hr:=ik.Ke ⟨.cells [],re.size,false,false,e⟩;obtain⟨blk,bY,bM⟩:=wS;have Ao:cG Ak.next=none:=by
    cases hc:cG Ak.next with
    |none=>rfl
    |some l=>exact absurd (ik.fI _ l hc) (Nat.lt_irrefl _)
   have rA:=hr.relabel (B:=Ak.next) (blk':=⟨.own (.chan (some (cu+1))),re.size,false,false,e⟩) (v:= .slice none 0 0) bY (Nat.lt_succ_self _) (pQ _ rfl) bM (fun l hl=>a0D)
    ⟨([]++nr),(by show((cG.lI Ak.next (.slice none 0 0)).d cu).bind _=_;have:(cG.lI Ak.next (.slice none 0 0)).d=cG.d:=rfl;grind),.inl ⟨EP,by show(if Ak.next=Ak.next then _ else _)=_;grind⟩⟩
   refine⟨_,_,_,aM,?_,rA,by rw[<-SX];exact af.iP a0D (af.AE cG Ak.next _) (xk _)⟩;have:=aj.own (β:=cG.lI Ak.next (.slice none 0 0)) Ak.next cu ([]++nr) none 0 (by show(if Ak.next=Ak.next then _ else _)=_;grind) (.inl ⟨rfl,EP⟩) q4
   grind
  ·exact HA none [] (run_firstCells_none w.drew ie.size 0 0 0) a0C a0F (fun i row j d hi=>by simp at hi)
 ·subst bw0;have oB:B<A.next:=by rw[<-n1];exact Nat.lt_of_not_le fun iL=>by grind [i1.cW]
  have aW:cG B=some l:=by rw[g2.f B oB];exact hl
  have bI9:Ak=(A2.pop r).put B none:=NE.symm;obtain⟨bK7,sB,bD5⟩:∃blk,(A2.pop r).get B=some blk/\blk.still=false:=by
   have gJ:(match(A2.pop r).get B with|some ⟨_,_,_,false,_⟩=>true|_=>false)=true:=bG5
   grind [aE.still]
  have Ug:cG.z l.b=none:=i3.sep B l bK7 vC aW sB bD5;obtain⟨RB,RA⟩:=i3.loc B l aW;have jA:∀C lc,cG C=some lc->lc.b=l.b->Ak.get C=none:=fun C lc hC eE=>by
   rw[bI9];rcases(A2.pop r).gk B none C with⟨e1,_⟩|⟨e1,_⟩|⟨e1,bq⟩
   ·exact e1
   ·exact e1
   ·rw[e1];cases Nt:(A2.pop r).get C with
    |none=>rfl
    |some kk=>grind [absurd,i3.inj]
  have ZH:∀(i:Nat) (row:a0d) (j:Nat) (d:D),rows[i]? =some row->row[j]? =some d->∃v,aB[d0+(i*re.size+j)]? =some v/\Rd cG.z d v:=fun i row j d hi hj=>(Eh i row j d hi hj).imp fun v ⟨a,b⟩=>⟨a,b.mono g2.z⟩
  have YE:∀(w':World) (wU:a0x),w.grownBy w' (some l.b)->w'.heap.size=w.heap.size->w'.heap[l.b]? =some (.cells wU e (0,0))->wU.size=aB.size->(∀j,j<rows.length*re.size->wU[d0+j]? =aB[d0+j]?)->(∀j v,dI[j]? =some v->wU[d0+rows.length*re.size+j]? =some v)->rows.length+nr.length<=cap->
   (Builtin.append_ #[t,tx] ty #[.slice (some ⟨l.b,d0,none⟩) rows.length cap,x']).run P w= .ok (.slice (some ⟨l.b,d0,none⟩) (rows.length+nr.length) cap) w'->
   hY w0 E.G β A ((Builtin.append_ #[t,tx] ty #[.slice (some ⟨l.b,d0,none⟩) rows.length cap,x']).run P w) (.iface Ak.next (.chan (some (cu+1)))) ((Ak.add ⟨.cells [],re.size,false,false,e⟩).put Ak.next (some ⟨.own (.chan (some (cu+1))),re.size,false,false,e⟩)):=fun w' wU hw aS IZ EW ho hn pr aM=>by
   obtain⟨vG,oE⟩:=Inv.R4 (E:=E) ik (w':=w') ⟨l.b,d0,re.size,l.sz⟩ ⟨.cells [],re.size,false,false,e⟩ RB (RA.resolve_left a0B) Ug (show cG.y l.b=none from i3.GM aW (by rw[sB];rfl)) jA hw aS (by
    rw[IZ];exact⟨wU,e,(0,0),rfl,EW.trans cJ,by
     grind,(fun i v hv=>by simp at hv),fun _=>rfl,(fun h=>by cases h),rfl,fun _=>rfl⟩)
   obtain⟨Cl,v',o9,vJ,Jj,Vf⟩:=ah3 _ _ ⟨l.b,d0,re.size,l.sz⟩ cap vG oE (ju _ _ _) (pQ _ rfl) rfl a0D iW ⟨wU,IZ,EW.trans cJ,ZI _ wU d0 (fun _ _ h=>h) (fun i row j d hi hj=>by
    obtain⟨v,v1,v2⟩:=ZH i row j d hi hj;refine⟨v,?_,v2⟩;rw[ho (i*re.size+j) ?_]
    ·exact v1
    ·have fW:=(xe.1 hi).1;have ja:j<re.size:=by rw[<-ot row (xu hi)];exact(xe.1 hj).1
     have:(i+1)*re.size<=rows.length*re.size:=xD _ fW
     grind) hn⟩
   refine⟨Cl,v',w',?_,vJ,Jj,Vf⟩
   grind
  have bN1:rows.length*re.size<=cap*re.size:=xD _ sf;by_cases sv:nr.length=0
  ·have EP:nr=[]:=xE.1 sv;have bN4:dI=[]:=xE.1 a0D;have bB1:Src P ie.size tx x' 0 dI w:=by rw[sv] at src;exact src
   have aM:=F9 (P:=P) (ty:=ty) hu jb bB1 (some ⟨l.b,d0,none⟩) rows.length cap sf;refine YE w aB ⟨rfl,rfl,rfl,xk _,fun _ _ _=>rfl⟩ rfl hh rfl (fun _ _=>rfl) (fun j v hj=>a0D) a0B ?_
   grind
  ·by_cases pr:rows.length+nr.length<=cap
   ·have B7:(rows.length+nr.length)*re.size<=cap*re.size:=xD _ pr;rw[Nat.add_mul] at B7;have iz:∀j,j<dI.length->(w.cell? ⟨l.b,d0+rows.length*ie.size+j,none⟩).isSome=true:=fun j hj=>by
     rw[cell_of_row w l.b _ aB e (0,0) hh]
     grind
    have lT:∀j,j<dI.length->w.frozen? ⟨l.b,d0+rows.length*ie.size+j,none⟩=false:=fun j _=>by simp[World.frozen?,hh]
    have aM:=run_append_room_src (P:=P) w t tx ty e ie hu jb l.b d0 rows.length cap x' nr.length dI src pr iz lT;have sd:=run_storeCells_cells (P:=P) l.b (d0+rows.length*ie.size) dI 0 w a0D a0D src.one;rw[Nat.add_zero] at sd;have bg:=run_storeCells_at (P:=P) l.b (d0+rows.length*ie.size) e dI 0 aB w hh a0D src.one;rw[Nat.add_zero,sd] at bg;have SC:=(Result.ok.inj bg).2;rw[SC] at aM;have Ek:d0+rows.length*ie.size+dI.length<=aB.size:=by rw[lQ];omega
    refine YE _ _ (F' w l.b _) a0C (setRow_heap w l.b aB _ e (0,0) hh) (VH _ _ _ Ek) (fun j hj=> ?_) (fun j v hj=> ?_) pr aM
    ·rw[yN _ _ _ Ek,if_neg (by rw[lQ];omega)]
    ·have fV:=(xe.1 hj).1;rw[yN _ _ _ Ek,if_pos a0D,show d0+rows.length*re.size+j - (d0+rows.length*ie.size)=j by grind];exact hj
   ·let eT:=(List.range (rows.length*re.size)).map fun j=>aB.getD (d0+j) undef
    have rp:eT.length=rows.length*re.size:=by simp[eT]
    have hog:∀j,j<rows.length*re.size->eT[j]? =some (aB.getD (d0+j) undef):=fun j hj=>by
     grind
    have hcg:∀j,j<rows.length*re.size->aB[d0+j]? =some (aB.getD (d0+j) undef):=fun j hj=>by
     have:d0+j<aB.size:=a0B
     simp[this]
    refine HA (some ⟨l.b,d0,none⟩) eT (run_firstCells_some w.drew ie.size rows.length _ rows.length cap eT a0D (fun j u hu=> ?_)) rp a0B (fun i row j d hi hj=> ?_)
    ·have hj:j<rows.length*re.size:=by rw[<-rp];exact(xe.1 hu).1
     rw[hog j hj] at hu;cases hu;rw[Addr.add_mid,World.cell?_drew,cell_of_row w l.b _ aB e (0,0) hh]
     grind
    ·obtain⟨v,v1,v2⟩:=ZH i row j d hi hj;have fW:=(xe.1 hi).1;have ja:j<re.size:=by rw[<-ot row (xu hi)];exact(xe.1 hj).1
     have bk:i*re.size+j<rows.length*re.size:=by
      have:(i+1)*re.size<=rows.length*re.size:=xD _ fW;rw[Nat.add_mul] at this;omega
     grind
end
def sW(v:xM):a0e:=match v with| .agg ⟨l⟩=>l|v=>[v]
def A7(E:au)(A:AW)(t:xN)(a x:xM):Option AW:=
 match a,E.ti.get none t with
 | .iface B (.agg ⟨[iv,.int .i64 (.ofNat es),.int .i64 (.ofNat off)]⟩),some r=>match kW E.G.n 4 x A with
  |some (u,A1)=>match A1.get B with
   |some ⟨.own c,es',ex,false,ty⟩=>bs (Nat.beq es es'&&Nat.ble E.G.n B&&Nat.beq (bA (sW u)) r.size&&fq one (sW u)) (match nC A1 (.ky off) (c::iv::sW u) with
    |some (y,A2)=>some (A2.put B (some ⟨.own y,es',ex,false,ty⟩))
    |none=>none) none
   |_=>none
  |none=>none
 |_,_=>none
def Uc(E:au)(A:AW)(t:xN)(l c:xM):a0q:=
 match E.ti.get none t with
 |some ⟨.slice e,_,_,_,_⟩=>match E.ti.get none e with
  |some re=>bs (re.rb&&Nat.beq (bA re.zero) re.size&&Nat.ble 1 re.size&&Nat.blt e jS&& (eX l||eX c)) (match nC A (.n5 re.size re.bytes) (l::c::eY pA re.zero) with
   |some (u,A1)=>(match yY A1 none u re.size e with|some A2=>some (.iface A1.next u,A2)|none=>none)
   |none=>none) none
  |none=>none
 |_=>none
def Ql(E:au)(A:AW)(t:xN)(x lo:xM)(hi:a0e):a0q:=
 match E.ti.get none t with
 |some ⟨.slice e,_,_,_,_⟩=>match jG E e with
  |some n=>match kW E.G.n 4 x A with
   |some (u,A1)=>nC A1 (.qk n) (u::lo::hi)
   |none=>none
  |none=>none
 |_=>none
section
variable(ok:E.Ok P)
include ok in
theorem run_make{re:Row}{a1 a2 a3 a4}(hr:E.ti.get none t=some ⟨.slice e,a1,a2,a3,a4⟩)(dU:E.ti.get none e=some re)(tF:re.rb=true)(nH:re.zero.length=re.size){ln cn:Nat}(al6:ln<=cn)(bw7:cn<=9223372036854775807)(am6:cn*re.bytes<=140737488355328)(w:World):
 ∃C:a0e,C.length=cn*re.size/\(∀i,i<cn*re.size->C[i]? =re.zero[i%re.size]?)/\(Instr.makeSlice t (.int .i64 (ln:Nat)) (.int .i64 (cn:Nat))).run P w= .ok (.slice (some ⟨w.heap.size,0,none⟩) ln cn) (w.alloc (.cells ⟨C⟩ e)):=by
  have hu:=(ok.ti t _ hr).1;obtain⟨_,ie,jb,lQ,yh,hz⟩:=ok.ti e re dU;obtain⟨z,jz,eP⟩:=hz tF;obtain⟨C,hC⟩:∃C:a0e,((Array.range (cn*re.size)).map (fun x=>(if cn*re.size=0 then #[] else(⟨re.zero⟩:a0x))[x% (if cn*re.size=0 then #[] else(⟨re.zero⟩:a0x)).size]!))=⟨C⟩:=⟨_,rfl⟩;have FP:C.length=cn*re.size:=by have:=congrArg Array.size hC;simpa using this.symm
  refine⟨C,FP,fun i hi=> ?_,?_⟩
  ·have h0: ¬cn*re.size=0:=a0B
   have aS:0<re.size:=by
    rcases xI re.size with e|e
    ·grind
    ·exact e
   have hm:i%re.size<re.zero.length:=by rw[nH];exact Nat.mod_lt _ aS
   have h2:=congrArg (fun a:a0x=>a[i]?) hC
   grind
  have w1:IntKind.i64.wrap (ln:Int)=(ln:Int):=IntWalk.i64_in _ a0B;have w2:IntKind.i64.wrap (cn:Int)=(cn:Int):=IntWalk.i64_in _ a0B;have bM: ¬((281474976710656:Int)<(re.bytes:Int)*(cn:Int)):=by
   have h5:((cn*re.bytes:Nat):Int)<=140737488355328:=a0B
   rw[Int.natCast_mul,Int.mul_comm] at h5;omega
  have pr: ¬roomBytes<cn*re.bytes:=by rw[show roomBytes=140737488355328 from rfl];omega
  have wI: ¬((cn:Int)<0):=a0B
  have Hx: ¬((ln:Int)<0):=a0B
  have tH: ¬((cn:Int)<(ln:Int)):=a0B
  by_cases h0:cn*re.size=0
  ·rw[if_pos h0] at hC;simp[Instr.makeSlice,run_underlying hu,asInt,asIntOf,typeInfo,jb,yh,w1,w2,bM,wI,Hx,tH,askRoom,pr,dL ok dU,h0,newRow]
   grind
  ·rw[if_neg h0] at hC;simp[Instr.makeSlice,run_underlying hu,asInt,asIntOf,typeInfo,jb,yh,w1,w2,bM,wI,Hx,tH,askRoom,pr,dL ok dU,h0,newRow,zeroValue,jz,eP]
   grind
theorem aD0{u v':xM}{n:Nat}(h1:fq one (sW u)=true)(hv:aj β u v')(bq:∀d,u= .agg d->True:=fun _ _=>trivial)(hd:(bR β.d u).isSome=true):∃l',v'.cells=⟨l'⟩/\aX β (sW u) l':=by
 unfold sW at h1⊢;split at h1
 ·cases hv with
  |agg _ p' hp h2=>exact⟨p',rfl,hp,h2⟩
 ·rename_i dV;have oD:one u=true:=pn one _ h1 u xn;have dK:=Yn oD hv;refine⟨[v'],?_,aX.cons hv (aX.nil β)⟩;obtain⟨d,hd⟩:=Option.isSome_iff_exists.1 hd;have gA:=eU hd hv;have hc:d.cell=true:=by
   unfold bR at hd;split at hd
   ·grind
   ·grind [GF]
  grind [Gv]
theorem YW:∀(l0:a0e) (ds:a0d),fq one l0=true->aI (bR δ) l0=some ds->aI (aZ δ) l0=some ds
 |[],ds,_,h=>h
 |v::l0,ds,ho,h=>by
  obtain⟨d1,d2,rfl,e1,e2⟩:=iu h;have jo:bs (one v) (fq one l0) false=true:=ho;rcases ax jo with⟨h1,h2⟩|⟨_,h2⟩
  ·unfold aI;rw[YW l0 d2 h2 e2];have:aZ δ v=some d1:=by
    unfold bR at e1;split at e1
    ·cases h1
    ·exact e1
   rw[this]
  ·cases h2
theorem aD1{u:xM}{ds:a0d}(h1:fq one (sW u)=true)(h:aI (bR δ) (sW u)=some ds):(bR δ u).isSome=true:=by
 unfold sW at h h1;split at h
 ·rename_i l0;have e:=YW l0 _ h1 h;show(Option.map D.agg (aI (aZ δ) l0)).isSome=true;rw[e];rfl
 ·obtain⟨d1,rfl,e4⟩:=kP h;rw[e4];rfl
include ok in
theorem aE1{a a' x:xM}(h:A7 E A t a x=some A')(inv:Inv w0 E.G β A w)(ha:aj β a a')(hx:aj β x x'):∃β' w',(Instr.storeAt t a' x').run P w= .ok () w'/\Inv w0 E.G β' A' w'/\β.grow β' A.next/\A.next<=A'.next:=by
 unfold A7 at h;split at h;rotate_left
 ·cases h
 rename_i B iv es off r hr;split at h;rotate_left
 ·cases h
 rename_i u A1 hf;split at h;rotate_left
 ·cases h
 rename_i c es' ex ty hg;replace h:=ax h;rcases h with⟨hb,h⟩|⟨_,h⟩;rotate_left
 ·cases h
 split at h;rotate_left
 ·cases h
 rename_i y A2 eI;cases h;simp only [xf,du] at hb;obtain⟨⟨⟨dS,hG⟩,aS⟩,se⟩:=hb;have uX:=xb dS;subst uX;have vC:=xh hG;have H9:=xb aS;obtain⟨aH,i1,g1,n1,f1⟩:=we ok (w0:=w0) (w:=w) 4 x A u A1 β hf inv;obtain⟨nd,rt,cy,ht,eJ,dV,fH,rfl,rfl⟩:=nW eI;have i2:=i1.pop (r:=rt) (fun x hx=>a0D);have hu:aj aH u x':=f1 aH (af.cb _ _) x' (hx.mono (inv.gC g1));have hq:bP aH.d nd:=ok.q _ _ (i1.dJ nd a0D);unfold bP at hq;rw[eJ] at hq;obtain⟨ds,d,q1,q2,q3⟩:=hq;rw[dV] at q1;rw[fH] at q2;obtain⟨q4,q5⟩:=jv q2;obtain⟨dc,ds1,rfl,e1,q1⟩:=iu q1;obtain⟨di,pa,rfl,e2,e3⟩:=iu q1;have fA:(A1.pop rt).get B=some ⟨.own c,es,ex,false,ty⟩:=hg;obtain⟨rows,hd,ho⟩:=i2.own B _ fA;rw[lD hd] at e1;cases e1;have aF:XG off (.sl rows) di pa=some d:=q3;have nS:aj aH (.iface B (.agg ⟨[iv,.int .i64 (.ofNat es),.int .i64 (.ofNat off)]⟩)) a':=ha.mono (inv.gC g1);cases nS with
 |qS _ _ _ m l _ k hl hi=>
  rw[lD hi] at e2;cases e2;obtain⟨row,fb,q6⟩:=xr.1 (show(rows[m]?).bind _=some d from aF);split at q6;rotate_left
  ·cases q6
  rename_i iW;cases q6;obtain⟨aB,zl,k1,k2,k3,k4,k5,k6,k7⟩:=i2.cont B _ l fA hl;have xX:(D.sl rows)= .sl zl:=xC (hd.symm.trans k3);cases xX;have qo:l.es=es:=k4;have ot:row.length=es:=by rw[<-qo];exact k5 row (xu fb)
  have al1:=(xe.1 fb).1;have bH8:pa.length=(sW u).length:=pd e3;have bu9:=aD1 se e3;obtain⟨l',fj,jN⟩:=aD0 (n:=0) se hu (fun _ _=>trivial) bu9;have kJ:l'.length=r.size:=by rw[<-jN.1,H9]
  have B7:(m+1)*es<=rows.length*es:=xD _ al1;rw[Nat.add_mul] at B7;rw[qo] at k6;have bw2:l.d+(m*es+off)+l'.length<=aB.size:=by rw[k2];omega
  have bv4:=Kz se jN;have bg:=run_storeCells_at (P:=P) l.b (l.d+(m*es+off)) ty l' 0 aB w k1 a0B bv4;rw[Nat.add_zero] at bg;have aM:(Instr.storeAt t (.pointer (some ⟨l.b,l.d+(m*es+off),none⟩)) x').run P w= .ok () (w.setRow l.b (aB.toList.take (l.d+(m*es+off))++l'++aB.toList.drop (l.d+(m*es+off)+l'.length)).toArray):=by
   simp[Instr.storeAt,Instr.sureAddr,storeVar,dL ok hr,fj,kJ,bg]
  have lJ:∀(i:Nat) (z4:a0d) (j:Nat) (d:D),(rows.set m (row.take off++pa++row.drop (off+pa.length)))[i]? =some z4->z4[j]? =some d->j<es/\((i=m/\off<=j/\j<off+pa.length/\pa[j - off]? =some d)\/(rows[i]? =some z4/\i≠m)\/(i=m/\(j<off\/off+pa.length<=j)/\row[j]? =some d)):=fun i z4 j d hi hj=>by
   by_cases him:m=i
   ·subst him;rw[List.getElem?_set_self al1] at hi
    ·cases hi;have fV:=(xe.1 hj).1;simp only [xa,xz,List.length_drop] at fV;have bG6:j<es:=a0B
     refine⟨bG6,?_⟩;by_cases h1:j<off
     ·grind
     ·by_cases h2:j<off+pa.length
      ·grind
      ·rw[xq a0F] at hj;rw[xa,xz,Nat.min_eq_left a0B,List.getElem?_drop] at hj
       grind
   grind
  have Ms:∀BT∈rows.set m (row.take off++pa++row.drop (off+pa.length)),BT.length=es:=fun BT cz=>by
   grind
  have fR:aZ aH.d (.chan (some (cy+1)))=some (.sl (rows.set m (row.take off++pa++row.drop (off+pa.length)))):=by
   show(aH.d cy).bind _=_;rw[q4];rfl
  have lq:pa.length=l'.length:=by rw[bH8,jN.1]
  have hw:=i2.write (w':=w.setRow l.b (aB.toList.take (l.d+(m*es+off))++l'++aB.toList.drop (l.d+(m*es+off)+l'.length)).toArray) B l _ ⟨.own (.chan (some (cy+1))),es,ex,false,ty⟩ fA hl vC (F' w l.b _) a0C (by
   rw[setRow_heap w l.b aB _ ty (0,0) k1];refine⟨_,_,rfl,a0D,fR,qo,(fun BT cz=>a0D),a0D,fun i z4 j d hi hj=> ?_⟩;rw[qo];rw[yN _ _ _ bw2];obtain⟨hje,hc⟩:=lJ i z4 j d hi hj;rcases hc with⟨rfl,h1,h2,h3⟩|⟨h1,h2⟩|⟨rfl,h1,h2⟩
   ·rw[if_pos a0B,show l.d+(i*es+j) - (l.d+(i*es+off))=j - off by omega];have sx:j - off<l'.length:=a0B
    refine⟨l'[j - off],xc sx,?_⟩;have Al:j - off<(sW u).length:=a0B
    exact eU (ng e3 h3 (xc Al)) (jN.2 _ _ _ (xc Al) (xc sx))
   ·have: ¬(l.d+(m*es+off)<=l.d+(i*es+j)/\l.d+(i*es+j)<l.d+(m*es+off)+l'.length):=by
     rcases Nat.lt_or_gt_of_ne h2 with h9|h9
     ·have:(i+1)*es<=m*es:=xD _ h9
      grind
     ·have:(m+1)*es<=i*es:=xD _ h9
      grind
    rw[if_neg this]
    simp_all
   ·rw[if_neg a0B]
    simp_all) (by
   refine⟨_,fR,?_⟩
   grind)
  exact⟨aH,_,aM,hw,g1,by show A.next<=A1.next;grind⟩
include ok in
theorem aO1{l l' c c' v:xM}(h:Uc E A t l c=some (v,A'))(inv:Inv w0 E.G β A w)(hl:aj β l l')(hc:aj β c c'):hY w0 E.G β A ((Instr.makeSlice t l' c').run P w) v A'/\A.next<=A'.next:=by
 unfold Uc at h;split at h;rotate_left
 ·cases h
 rename_i e _ _ _ _ hr;split at h;rotate_left
 ·cases h
 rename_i re dU;replace h:=ax h;rcases h with⟨hb,h⟩|⟨_,h⟩;rotate_left
 ·cases h
 split at h;rotate_left
 ·cases h
 rename_i u A1 eI;split at h;rotate_left
 ·cases h
 rename_i A2 jj;cases h;simp only [xf,du] at hb;obtain⟨⟨⟨⟨tF,pK⟩,h1⟩,I6⟩,_⟩:=hb;have nH:=xb pK;have oD:=xh h1;obtain⟨nd,rt,cu,ht,eJ,dV,fH,rfl,rfl⟩:=nW eI;have i2:=inv.pop (r:=rt) (fun x hx=>a0D);have hq:bP β.d nd:=ok.q _ _ (inv.dJ nd a0D);unfold bP at hq;rw[eJ] at hq;obtain⟨ds,d,q1,q2,q3⟩:=hq;rw[dV] at q1;rw[fH] at q2;obtain⟨q4,q5⟩:=jv q2;obtain⟨dl,ds1,rfl,e1,q7⟩:=iu q1;obtain⟨dc,zs,rfl,e2,e3⟩:=iu q7;clear q1 q7;have aF:BH re.size re.bytes dl dc zs=some d:=q3;unfold BH at aF;split at aF;rotate_left
 ·cases aF
 rename_i ln cn;split at aF;rotate_left
 ·cases aF
 rename_i qN;obtain⟨jz,eP,lP⟩:=qN;cases aF;have aW:=eU e1 hl;have bF:=eU e2 hc;cases aW;cases bF;unfold mK at lP;simp only [xf,decide_eq_true_iff] at lP;obtain⟨C,hC1,hC2,aM⟩:=run_make (P:=P) ok hr dU tF nH (ln:=ln) (cn:=cn) eP lP.1 lP.2 w;have Hv:=AF β re.zero;unfold yY at jj;simp only [Fu] at jj;split at jj;rotate_left
 ·cases jj
 rename_i Vg Ve Vc TZ jc;cases jj;have Ms:=WB (E:=E) (w:=w) i2 [] [] e re.size false (fun β' hb=>aX.nil β');obtain⟨g1,g2⟩:=i2.new (l:=⟨w.heap.size,0,re.size,C.length⟩) ⟨.cells [],re.size,false,false,e⟩ (.cells ⟨C⟩ e) rfl
  ⟨⟨C⟩,e,(0,0),rfl,rfl,a0C,(fun i v hv=>by simp at hv),fun _=>rfl,(fun h=>by cases h),rfl,fun _=>rfl⟩
 have pQ:(β.put (A.pop rt).next ⟨w.heap.size,0,re.size,C.length⟩).o (A.pop rt).next=none:=by
  show β.o A.next=none;cases hq:β.o A.next with
  |none=>rfl
  |some v=>have:=inv.iB _ _ hq;omega
 have fR:∀(cG:af),cG.d=β.d->aZ cG.d (.chan (some (cu+1)))=some (.sl (List.replicate ln zs)):=fun cG e=>by
  show(cG.d cu).bind _=_
  grind
 have rA:=g1.relabel (B:=(A.pop rt).next) (blk':=⟨.own (.chan (some (cu+1))),re.size,false,false,e⟩) (v:= .slice (some ⟨w.heap.size,0,none⟩) (List.replicate ln zs).length cn) jc (Nat.lt_succ_self _) pQ rfl (fun l2 aW=>by
  rw[ju] at aW;cases aW;refine⟨⟨C⟩,List.replicate ln zs,heap_alloc_new w _,rfl,fR _ rfl,rfl,(fun row hr=>a0D),?_,fun i row j d hi hj=> ?_⟩
  ·show 0+(List.replicate ln zs).length*re.size<=C.length;rw[List.length_replicate,hC1];have:ln*re.size<=cn*re.size:=xD _ eP;omega
  ·have fW:=(xe.1 hi).1;rw[List.length_replicate] at fW;rw[List.getElem?_replicate,if_pos fW] at hi;cases hi;have ja:j<re.size:=by rw[<-jz];exact(xe.1 hj).1
   have bk:i*re.size+j<cn*re.size:=by
    have:(i+1)*re.size<=cn*re.size:=xD _ a0B;rw[Nat.add_mul] at this;omega
   have wJ:(i*re.size+j)%re.size=j:=by
    rw[Nat.mul_comm,Nat.mul_add_mod,Nat.mod_eq_of_lt ja]
   have Jc:=hC2 _ bk;rw[wJ] at Jc;have sx:j<re.zero.length:=by rw[nH];exact ja
   refine⟨re.zero[j],?_,?_⟩
   ·grind
   ·have Al:j<(eY pA re.zero).length:=by rw[Hv.1];exact sx
    exact eU (β:=β) (ng e3 hj (xc Al)) (Hv.2 _ _ _ (xc Al) (xc sx)))
  ⟨List.replicate ln zs,fR _ rfl,.inr ⟨_,cn,ju _ _ _,by show(if(A.pop rt).next=(A.pop rt).next then _ else _)=_;grind,a0D,a0D,rfl⟩⟩
 refine⟨⟨_,_,_,aM,?_,rA,?_⟩,Nat.le_succ _⟩
 ·have:=aj.own (β:=(β.put (A.pop rt).next ⟨w.heap.size,0,re.size,C.length⟩).lI (A.pop rt).next (.slice (some ⟨w.heap.size,0,none⟩) (List.replicate ln zs).length cn)) (A.pop rt).next cu (List.replicate ln zs) (some ⟨w.heap.size,0,none⟩) cn (by show(if(A.pop rt).next=(A.pop rt).next then _ else _)=_;grind) (.inr ⟨_,ju _ _ _,rfl⟩) q4
  grind
 ·exact af.iP g2 (af.AE _ _ _) (xk _)
end
def QT(E:au)(A:AW)(s d:xN)(x:xM):a0q:=
 match E.ti.get none s,E.ti.get none d with
 |some ⟨.string,_,_,_,_⟩,some ⟨.slice e,_,_,_,_⟩=>match E.ti.get none e with
  |some ⟨.int .u8,_,_,_,_⟩=>bs (eX x) (match nC A .F2 [x] with
   |some (x2,A0)=>(match nC A0 (.app 1 1) [.slice none 0 0,x2] with
    |some (u,A1)=>(match(A1.add ⟨.cells [],1,false,true,e⟩).get A1.next with
     |some ⟨.cells [],1,false,true,ty⟩=>some (u,(A1.add ⟨.cells [],1,false,true,e⟩).put A1.next (some ⟨.cells [],1,false,true,ty⟩))
     |_=>none)
    |none=>none)
   |none=>none) none
  |_=>none
 |_,_=>none
section
variable(ok:E.Ok P)
include ok in
theorem aI0{s d:xN}{x v:xM}(h:QT E A s d x=some (v,A'))(inv:Inv w0 E.G β A w)(hx:aj β x x'):hY w0 E.G β A ((convert s d x').run P w) v A'/\A.next<=A'.next:=by
 unfold QT at h;split at h;rotate_left
 ·cases h
 rename_i e _ _ _ _ hs hd;split at h;rotate_left
 ·cases h
 rename_i he;replace h:=ax h;rcases h with⟨_,h⟩|⟨_,h⟩;rotate_left
 ·cases h
 split at h;rotate_left
 ·cases h
 rename_i x2 A0 ya;split at h;rotate_left
 ·cases h
 rename_i u A1 eI;split at h;rotate_left
 ·cases h
 rename_i ty jc;cases h;obtain⟨sD,IF,c0,ht0,bE6,bF0,EP,rfl,rfl⟩:=nW ya;have i1:=inv.pop (r:=IF) (fun x hx=>a0D);have rn:bP β.d sD:=ok.q _ _ (inv.dJ sD a0D);unfold bP at rn;rw[bE6] at rn;obtain⟨yn,d2,r1,r2,r3⟩:=rn;rw[bF0] at r1;rw[EP] at r2;obtain⟨r4,r5⟩:=jv r2;obtain⟨dx,rfl,r6⟩:=kP r1;have z6:Hf dx=some d2:=r3;unfold Hf at z6;split at z6;rotate_left
 ·cases z6
 rename_i l;cases z6;have oZ:=eU r6 hx;cases oZ;obtain⟨nd,rt,cu,ht,eJ,dV,fH,rfl,rfl⟩:=nW eI;have i2:=i1.pop (r:=rt) (fun x hx=>a0D);have hq:bP β.d nd:=ok.q _ _ (i1.dJ nd a0D);unfold bP at hq;rw[eJ] at hq;obtain⟨ds,d1,q1,q2,q3⟩:=hq;rw[dV] at q1;rw[fH] at q2;obtain⟨q4,q5⟩:=jv q2;obtain⟨d0,ds1,rfl,e1,q7⟩:=iu q1;obtain⟨dy,rfl,e2⟩:=kP q7;have o9:D.sl []=d0:=xC e1;subst o9;have vJ:(β.d c0).bind (fun x=>if x.cell then some x else none)=some dy:=e2;rw[r4] at vJ;have vJ:D.str l=dy:=xC vJ;subst vJ;have aF:(if mK (([]:a0b).length+(l.map fun b=>[D.int .u8 (b.toNat:Nat)]).length) 1 then some (D.sl ([]++l.map fun b=>[D.int .u8 (b.toNat:Nat)])) else none)=some d1:=q3;split at aF;rotate_left
 ·cases aF
 cases aF;have h1:=(ok.ti s _ hs).1;have h2:=(ok.ti d _ hd).1;have h3:=(ok.ti e _ he).1;have aM:=Lib.run_convert_string_bytes (P:=P) w s d e ⟨⟨l⟩⟩ h1 h2 h3;rw[VE] at aM;have iL:=grownCap_ge w (ByteArray.size ⟨⟨l⟩⟩) 0 e;have aS:ByteArray.size ⟨⟨l⟩⟩=l.length:=rfl;rw[aS] at iL;have cJ:(Lib.bytesCells w e ⟨⟨l⟩⟩).size=grownCap w l.length 0 e:=by
  unfold Lib.bytesCells;rw[Array.size_append,Array.size_map,Array.size_replicate,aS];show l.length+_=_;omega
 obtain⟨g1,g2⟩:=(i2.drew (w.drawn+1)).new (l:=⟨w.heap.size,0,1,(Lib.bytesCells w e ⟨⟨l⟩⟩).size⟩) ⟨.cells [],1,false,true,e⟩ (.cells (Lib.bytesCells w e ⟨⟨l⟩⟩) e ((Lib.bytesCells w e ⟨⟨l⟩⟩).size,(Lib.bytesCells w e ⟨⟨l⟩⟩).size+1)) rfl
  ⟨_,_,_,rfl,rfl,a0C,(fun i v hv=>by simp at hv),(fun h=>by cases h),(fun h=>by cases h),rfl,fun _=>rfl⟩
 have jJ:(β.put ((A.pop IF).pop rt).next ⟨w.heap.size,0,1,(Lib.bytesCells w e ⟨⟨l⟩⟩).size⟩) ((A.pop IF).pop rt).next=some ⟨w.heap.size,0,1,(Lib.bytesCells w e ⟨⟨l⟩⟩).size⟩:=ju _ _ _;have hB:E.G.n<=((A.pop IF).pop rt).next:=by
  rcases Nat.lt_or_ge ((A.pop IF).pop rt).next E.G.n with bk|iL
  ·obtain⟨l,hl,_⟩:=i2.jk _ bk;have:=i2.fI _ _ hl;omega
  ·exact iL
 obtain⟨k1,k2⟩:=g1.still jc (.inl ⟨_,rfl⟩) hB jJ (heap_alloc_new _ _);refine⟨⟨_,_,_,aM,?_,k1,af.iP g2 (k2 _) (xk _)⟩,Nat.le_succ _⟩;refine .sym cu (.sl ([]++l.map fun b=>[D.int .u8 (b.toNat:Nat)])) _ q4 rfl ?_;rw[List.nil_append];cases l with
 |nil=>exact .nO _ _
 |cons b0 l0=>
  have aD:((b0::l0).map fun b=>[D.int .u8 (b.toNat:Nat)]).length=(b0::l0).length:=xm _;have hval:(Value.slice (some ⟨w.heap.size,0,none⟩) (ByteArray.size ⟨⟨b0::l0⟩⟩) (grownCap w (ByteArray.size ⟨⟨b0::l0⟩⟩) 0 e))= .slice (some ⟨w.heap.size,0,none⟩) ((b0::l0).map fun b=>[D.int .u8 (b.toNat:Nat)]).length (grownCap w (ByteArray.size ⟨⟨b0::l0⟩⟩) 0 e):=by rw[aD,aS]
  rw[hval];refine .sl _ 1 w.heap.size 0 _ (Lib.bytesCells w e ⟨⟨b0::l0⟩⟩) (by rw[af.wv,if_pos rfl]) a0C (fun row hr=>by
   obtain⟨b,_,rfl⟩:=xJ.1 hr;rfl) a0D a0D fun i row j d v hi hj hv=> ?_
  rw[xx] at hi;obtain⟨b,hb,rfl⟩:=xp.1 hi;have j5:j=0:=by
   have:=(xe.1 hj).1;simpa using this
  subst j5;have dY:D.int .u8 (b.toNat:Nat)=d:=by simpa using hj
  subst dY;have ov:=(xe.1 hb).1;unfold Lib.bytesCells at hv;rw[Nat.zero_add,Nat.mul_one,Nat.add_zero,Array.getElem?_append_left a0D] at hv;have bM:l0.length+1=(b0::l0).length:=rfl;have dK:((b0::l0).map fun b=>Value.int .u8 (b.toNat:Nat))[i]? =some v:=by simpa using hv
  rw[xx,hb] at dK;cases dK;exact .int _ _
end
def Qp(A:AW)(x:xM):a0q:=
 match x with
 | .iface B (.chan (some (c+1)))=>match A.get B,A.tape with
  |some ⟨.own _,es,_,_,_⟩,nd::r=>bs (nF nd.k .jf&&kS nd.args [.chan (some (c+1)),.int .i64 0]&&qe nd.res (.bool true)) (some (.iface B (.agg ⟨[.int .i64 0,.int .i64 (.ofNat es),.int .i64 0]⟩),A.pop r)) none
  |_,_=>none
 |_=>none
def Q0(E:au)(A:AW)(pt:xN)(p n:xM):a0q:=
 match p,E.ti.get none pt with
 | .iface B (.agg ⟨[.int .i64 (.ofNat 0),.int .i64 (.ofNat 1),.int .i64 (.ofNat 0)]⟩),some ⟨.pointer e,_,_,_,_⟩=>match A.get B,E.ti.get none e with
  |some ⟨.own c,1,ex,false,ty⟩,some re=>bs (Nat.beq re.size 1&&Nat.beq ty e&&Nat.ble E.G.n B&&eX n) (match nC A .Ea [c,n] with
   |some (y,A1)=>some (y,A1.put B (some ⟨.cells [],1,false,true,ty⟩))
   |none=>none) none
  |_,_=>none
 |_,_=>none
theorem RE:∀{rows:a0b},(∀row∈rows,row.length=1)->rows.flatten.length=rows.length/\∀(j:Nat) (d:D),rows.flatten[j]? =some d->∃row,rows[j]? =some row/\row[0]? =some d
 |[],_=>⟨rfl,fun j d h=>by simp at h⟩
 |row::rows,h=>by
  have h0:=h row xn;obtain⟨h1,h2⟩:=RE (rows:=rows) fun r hr=>h r (xo _ hr)
  match row,h0 with
  |[x],_=>
   refine⟨by simp[h1],fun j d hd=> ?_⟩;cases j with
   |zero=>simp at hd;subst hd;exact⟨[x],rfl,rfl⟩
   |succ j=>simp at hd;simpa using h2 j d hd
section
variable(ok:E.Ok P)
include ok in
theorem aE8{tys:Array xN}{x v:xM}(h:Qp A x=some (v,A'))(inv:Inv w0 E.G β A w)(hx:aj β x x'):hY w0 E.G β A ((Builtin.unsafeSliceData_ tys ty #[x']).run P w) v A'/\A.next<=A'.next:=by
 unfold Qp at h;split at h;rotate_left
 ·cases h
 rename_i B c;split at h;rotate_left
 ·cases h
 rename_i c0 es ex ro tb nd r hg ht;replace h:=ax h;rcases h with⟨hb,h⟩|⟨_,h⟩;rotate_left
 ·cases h
 cases h;simp only [xf] at hb;obtain⟨⟨b1,b2⟩,b3⟩:=hb;have e1:=ph b1;have e2:=mB _ _ b2;have e3:=uu b3;have hq:bP β.d nd:=ok.q _ _ (inv.dJ nd a0D);unfold bP at hq;rw[e1] at hq;obtain⟨ds,d,q1,q2,q3⟩:=hq;rw[e2] at q1;rw[e3] at q2;have sk:some (D.bool true)=some d:=q2;cases sk;obtain⟨dx,di,rfl,e5,e6⟩:=je q1;have e6':some (D.int .i64 0)=some di:=e6;cases e6';cases hx with
 |own _ _ rows a cap ho ha hd=>
  have F0:(β.d c).bind (fun x=>if x.cell then some x else none)=some dx:=e5;rw[hd] at F0;have F0:D.sl rows=dx:=xC F0;subst F0;have aF:some (D.bool (decide (0<rows.length)))=some (.bool true):=q3;have Mp:0<rows.length:=by
   have:=xC aF;injection this with this;exact of_decide_eq_true this
  obtain⟨Lj,h1,h2⟩:=inv.own B _ hg;rcases h2 with⟨_,e⟩|⟨l,ib,k1,k2,k3,_⟩
  ·grind
  ·rw[ho] at k2;injection k2 with k2;injection k2 with e7 e8 e9;subst e7 e9;refine⟨⟨β,_,w,Lib.run_unsafeSliceData_row w tys ty _ _ cap a0B,?_,inv.pop (fun x hx=>a0D),af.cb _ _⟩,xk _⟩;have:=aj.qS (β:=β) B es 0 0 l (.int .i64 0) .i64 k1 rfl
   grind
include ok in
theorem aJ5{pt it:xN}{p p' n n' v:xM}(h:Q0 E A pt p n=some (v,A'))(inv:Inv w0 E.G β A w)(hp:aj β p p')(hn:aj β n n'):hY w0 E.G β A ((Builtin.unsafeString_ #[pt,it] ty #[p',n']).run P w) v A'/\A.next<=A'.next:=by
 unfold Q0 at h;split at h;rotate_left
 ·cases h
 rename_i B e _ _ _ _ Fz;split at h;rotate_left
 ·cases h
 rename_i c ex tb re hg dU;replace h:=ax h;rcases h with⟨hb,h⟩|⟨_,h⟩;rotate_left
 ·cases h
 split at h;rotate_left
 ·cases h
 rename_i y A1 eI;cases h;simp only [xf] at hb;obtain⟨⟨⟨b1,b2⟩,b3⟩,b4⟩:=hb;have b1':=xb b1;have b2':=xb b2;have Vj:=xh b3;subst b2';obtain⟨nd,rt,cy,ht,eJ,dV,fH,rfl,rfl⟩:=nW eI;have i2:=inv.pop (r:=rt) (fun x hx=>a0D);have hq:bP β.d nd:=ok.q _ _ (inv.dJ nd a0D);unfold bP at hq;rw[eJ] at hq;obtain⟨ds,d,q1,q2,q3⟩:=hq;rw[dV] at q1;rw[fH] at q2;obtain⟨q4,q5⟩:=jv q2;obtain⟨dx,dn,rfl,e5,e6⟩:=je q1;obtain⟨rows,h1,h2⟩:=i2.own B _ hg;rw[lD h1] at e5;cases e5;have gf:=eU e6 hn;have aF:Pg (.sl rows) dn=some d:=q3;unfold Pg at aF;split at aF;rotate_left
 ·cases aF
 rename_i iy m iS;cases iS;split at aF;rotate_left
 ·cases aF
 rename_i hm;obtain⟨mZ,fU⟩:=hm;obtain⟨l,hl,rfl⟩:=xp.1 aF;subst mZ;cases gf;cases hp with
 |qS _ _ _ m0 lc _ k dt hi=>
  have gx:D.int .i64 0= .int k (m0:Nat):=xC hi;injection gx with _ kp;have bF5:m0=0:=a0B
  subst bF5;obtain⟨aB,zl,k1,k2,k3,k4,k5,k6,k7⟩:=i2.cont B _ lc hg dt;have xX:(D.sl rows)= .sl zl:=xC (h1.symm.trans k3);cases xX;have qo:lc.es=1:=k4;rw[qo] at k5 k6 k7;obtain⟨f1,f2⟩:=RE k5;obtain⟨g1,g2⟩:=Oq hl;have kJ:l.length=rows.length:=by rw[<-g1,f1]
  have iz:∀j x,l[j]? =some x->w.cell? ((⟨lc.b,lc.d,none⟩:Addr).add j)=some (.int .u8 x.toNat):=fun j x hx=>by
   obtain⟨row,eB,bu⟩:=f2 j _ (g2 j x hx);obtain⟨v,mq,dK⟩:=k7 j row 0 _ eB bu;cases dK;rw[Addr.add_mid,cell_of_row w lc.b _ aB tb (0,0) k1]
   grind
  have bZ:Inv w0 E.G β ((A.pop rt).put B (some ⟨.cells [],1,false,true,tb⟩)) (w.freeze ⟨lc.b,lc.d,none⟩ rows.length):=by
   obtain⟨Jg,hf⟩:=WR w lc.b lc.d rows.length k1;refine i2.GO B lc _ _ hg dt Vj (VM w lc.b lc.d rows.length) (VZ w lc.b lc.d rows.length) ?_ trivial (fun bC hz=> ?_) (fun h=>by cases h)
   ·rw[hf];exact⟨aB,tb,Jg,rfl,k2,by simp;omega,(fun i v hv=>by simp at hv),(fun h=>by cases h),(fun h=>by cases h),qo,fun _=>rfl⟩
   ·grind [i2.cP]
  have bg:aj β (.chan (some (cy+1))) (.string ⟨⟨l⟩⟩):= .sym cy (.str l) _ q4 rfl (.str _);have cy1:(⟨lc.b,lc.d+(0*1+0),none⟩:Addr)=⟨lc.b,lc.d,none⟩:=rfl;by_cases h0:rows.length=0
  ·have jO:l=[]:=xA a0B;subst jO;have I3:w.freeze ⟨lc.b,lc.d,none⟩ rows.length=w:=by
    unfold World.freeze;rw[if_pos (by simp[h0])]
   rw[I3] at bZ;refine⟨⟨β,_,w,?_,bg,bZ,af.cb _ _⟩,xk _⟩;rw[h0];exact Lib.run_unsafeString_none w pt it ty _
  ·have lm:=Lib.run_loadBytes (P:=P) w l ⟨lc.b,lc.d,none⟩ .empty iz;rw[kJ] at lm;have h5:P.cellsOf tb=1:=(Py ok dU).trans b1';obtain⟨ie,s1⟩:∃ie,w.shape? lc.b=some (tb,ie)/\ie=lc.sz:=⟨_,by grind [World.shape?],k2⟩;obtain⟨s1,s2⟩:=s1;subst s2;have Hy:=Wh (P:=P) (xk 1) h5 lc.sz lc.d rows.length a0D;rw[Nat.mul_one] at Hy;have SE:=(ok.ti pt _ Fz).1;refine⟨⟨β,.string ⟨⟨l⟩⟩,w.freeze ⟨lc.b,lc.d,none⟩ rows.length,?_,bg,bZ,af.cb _ _⟩,xk _⟩;have SR:Builtin.unsafeString_ #[pt,it] ty #[.pointer (some ⟨lc.b,lc.d,none⟩),.int .i64 (Int.ofNat rows.length)]=
    (do
     let n<-asInt (.int .i64 (Int.ofNat rows.length))
     if n<0 then runtimePanic (.error "unsafe.String: len out of range")
     if n>IntKind.i64.max then unsupported (.unsafePointer "String: a length above the largest int")
     if n=0 then pure (.string .empty)
     else if<-variablesAt ⟨lc.b,lc.d,none⟩ (<-elemOf pt) n.toNat then do
      let s<-loadBytes ⟨lc.b,lc.d,none⟩ .empty n.toNat
      freeze ⟨lc.b,lc.d,none⟩ n.toNat
      pure (.string s)
     else unsupported (.unsafePointer "String: not so many bytes at ptr")):=rfl
   show(Builtin.unsafeString_ #[pt,it] ty #[.pointer (some ⟨lc.b,lc.d,none⟩),.int .i64 (Int.ofNat rows.length)]).run P w=_;rw[SR];have Ic:IntKind.i64.max=9223372036854775807:=rfl;have Ij: ¬(9223372036854775807:Int)<(rows.length:Int):=a0B
   have wI: ¬(rows.length:Int)<0:=a0B
   simp[asInt,asIntOf,Ic,Ij,wI,h0,variablesAt,s1,elemOf,run_underlying SE,h5,Hy,lm]
include ok in
theorem aE3{n:Nat}{g:Gt}{a:Act}(hf:bU β n g a.tmps){x:Operand}{lo hi:Option Operand}{u:xM}(h:Ql E A t (ev E g x) (qm E g lo) (rz E g hi)=some (u,A'))(inv:Inv w0 E.G β A w):
 ∃β' v',(Instr.sliceAt t (a.eval x) (lo.map a.eval) (hi.map a.eval) none).run P w= .ok v' w/\aj β' u v'/\Inv w0 E.G β' A' w/\β.grow β' A.next/\A.next<=A'.next:=by
 unfold Ql at h;split at h;rotate_left
 ·cases h
 rename_i hr;split at h;rotate_left
 ·cases h
 rename_i hs;split at h;rotate_left
 ·cases h
 rename_i u1 A1 lT;obtain⟨aH,i1,g1,n1,f1⟩:=we ok (w0:=w0) (w:=w) 4 _ A u1 A1 β lT inv;obtain⟨nd,rt,cy,ht,eJ,dV,fH,hu,rfl⟩:=nW h;have i2:=i1.pop (r:=rt) (fun x hx=>a0D);have pL:aj aH u1 (a.eval x):=f1 aH (af.cb _ _) _ ((j7 (a:=a) inv hf x).mono (inv.gC g1));have hq:bP aH.d nd:=ok.q _ _ (i1.dJ nd a0D);unfold bP at hq;rw[eJ] at hq;obtain⟨ds,d,q1,q2,q3⟩:=hq;rw[dV] at q1;rw[fH] at q2;have q3:Fj (Bh _) ds=some d:=q3;have E1:=fun(y:Operand) (d:D) (hd:bR aH.d (ev E g y)=some d)=>eU hd ((j7 (a:=a) inv hf y).mono (inv.gC g1))
 obtain⟨dx,al,hb,k,b,e1,e2,e3,e4⟩:=P' E1 (fun x b=>by grind [Bh]) q1 q3;obtain⟨v',r1,r2⟩:=Ze ok hr hs e2 (eU e1 pL) e3 e4 w;exact⟨aH,v',r1,vS q2 r2,i2,g1,Nat.le_of_eq n1.symm⟩
end
end
end Go.Ex
