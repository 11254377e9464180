/- A verified evaluator of Go functions. -/
import Derived.Test.YtnjdjocokegphaaGreatDoorX8
import Derived.ProofKit
import Derived.Stop.Joined
import GoSem.ClaimJoined
import Derived.MakeChecks
import Derived.Test.YtnjdjocokegphaaGreatDoorX5
set_option linter.unusedVariables false
set_option linter.unusedSimpArgs false
namespace Go.Ex
open Go.RowKit
noncomputable section
section
variable{P:Program}
def Fy(P:Program)(g:xN→DataW Unit→Option (List xM)):Nat→List Field→List (DataW Unit)→Option (List xM)
 |_,[],[]=>some []
 |o,f::fs,d::ds=>if f.offset=o then
  (match g f.type d with
  |some l=>if l.length=P.cellsOf f.type then(match Fy P g (o+l.length) fs ds with|some r=>some (l++r)|none=>none) else none
  |none=>none)
  else none
 |_,_,_=>none
def Fz(g:DataW Unit→Option (List xM))(c:Nat):List (DataW Unit)→Option (List xM)
 |[]=>some []
 |d::ds=>(match g d with
  |some l=>if l.length=c then(match Fz g c ds with|some r=>some (l++r)|none=>none) else none
  |none=>none)
def Ax(P:Program):Nat→xN→DataW Unit→Option (List xM)
 |0,_,_=>none
 |m+1,t,d=>
  match d with
  | .lit (.bool b)=>(match P.underlying t with|some .bool=>some [.bool b]|_=>none)
  | .lit (.int k n)=>(match P.underlying t with|some (.int _)=>some [.int k n]|_=>none)
  | .lit (.string b)=>(match P.underlying t with|some .string=>some [.string ⟨⟨b⟩⟩]|_=>none)
  | .agg ds=>(match P.underlying t with
   |some (.struct fs)=>(match Fy P (Ax P m) 0 fs.toList ds with|some l=>if l.length=P.cellsOf t then some l else none|none=>none)
   |some (.array _ e)=>(match Fz (Ax P m e) (P.cellsOf e) ds with|some l=>if l.length=P.cellsOf t then some l else none|none=>none)
   |_=>none)
  |_=>none
theorem Vp{α β:Type}{f:α→Option β}{a:α}{l:List α}{r:List β}(h:(a::l).mapM f=some r):∃b r',f a=some b∧l.mapM f=some r'∧r=b::r':=by
 rw[List.mapM_cons] at h;cases h1:f a with
 |none=>rw[h1] at h;cases h
 |some b=>
  rw[h1] at h;cases h2:l.mapM f with
  |none=>rw[h2] at h;cases h
  |some r'=>rw[h2] at h;cases h;exact⟨b,r',rfl,rfl,rfl⟩
theorem WG{α:Type}(cs:List α)(o a b:Nat):(cs.drop o).take (a+b)=(cs.drop o).take a++(cs.drop (o+a)).take b:=by
 rw[List.take_add,List.drop_drop]
theorem Ox{w:World}{mG:Nat}{QI:Nat→Bool}{Ty:Bool}:∀(aP m:Nat) (t:xN) (cs:List xM) (d:DataW Unit) (p:List MemPlace) (l:List xM),
 DataW.trod (fun _=>()) P w mG QI Ty aP t cs=some (d,p)→Ax P m t d=some l→cs=l
 |0,m,t,cs,d,p,l,h,hl=>by cases h
 |aP+1,0,t,cs,d,p,l,h,hl=>by cases hl
 |aP+1,m+1,t,cs,d,p,l,h,hl=>by
  unfold Ax at hl;cases hu:P.underlying t with
  |none=>unfold DataW.trod at h;rw[hu] at h;simp at h
  |some kd=>
   have bt8:∀fs,kd= .struct fs→cs=l:=by
    rintro fs rfl;unfold DataW.trod at h;rw[hu] at h;simp only at h;split at h
    ·rename_i aF;obtain⟨xs,hx,e⟩:=xp.1 h;cases e;simp only [hu] at hl;split at hl
     ·rename_i l' dW;split at hl
      ·rename_i kL;cases hl;have go:∀(L:List Field) (o:Nat) (xs:List (DataW Unit×List MemPlace)) (l:List xM),L.mapM (fun f=>DataW.trod (fun _=>()) P w mG QI Ty aP f.type ((cs.drop f.offset).take (P.cellsOf f.type)))=some xs→
        Fy P (Ax P m) o L (xs.map (·.1))=some l→(cs.drop o).take l.length=l:=by
        intro L
        induction L with
        |nil=>intro o xs l h1 h2;simp at h1;subst h1;simp[Fy] at h2;subst h2;simp
        |cons f L ih=>
         intro o xs l h1 h2;obtain⟨b,r',e1,e2,rfl⟩:=Vp h1;rw[List.map_cons] at h2;unfold Fy at h2;split at h2
         ·rename_i ho;split at h2
          ·rename_i l1 fy;split at h2
           ·rename_i hc;split at h2
            ·rename_i l2 bF;cases h2;obtain⟨b1,b2⟩:=b;have q1:=Ox aP m _ _ _ _ _ e1 fy;have q2:=ih _ _ _ e2 bF;rw[xa,WG,q2,hc,←ho,q1]
            ·cases h2
           ·cases h2
          ·cases h2
         ·cases h2
       have:=go fs.toList 0 xs l hx dW;rw[List.drop_zero,kL,←aF,List.take_length] at this;exact this
      ·cases hl
     ·cases hl
    ·cases h
   have bF3:∀n e,kd= .array n e→cs=l:=by
    rintro n e rfl;unfold DataW.trod at h;rw[hu] at h;simp only at h;split at h
    ·rename_i aF;obtain⟨xs,hx,e'⟩:=xp.1 h;cases e';simp only [hu] at hl;split at hl
     ·rename_i l' dW;split at hl
      ·rename_i kL;cases hl;have go:∀(n s:Nat) (xs:List (DataW Unit×List MemPlace)) (l:List xM),(List.range' s n).mapM (fun i=>DataW.trod (fun _=>()) P w mG QI Ty aP e ((cs.drop (i*P.cellsOf e)).take (P.cellsOf e)))=some xs→
        Fz (Ax P m e) (P.cellsOf e) (xs.map (·.1))=some l→(cs.drop (s*P.cellsOf e)).take l.length=l:=by
        intro n
        induction n with
        |zero=>intro s xs l h1 h2;simp at h1;subst h1;simp[Fz] at h2;subst h2;simp
        |succ n ih=>
         intro s xs l h1 h2;rw[List.range'_succ] at h1;obtain⟨b,r',e1,e2,rfl⟩:=Vp h1;rw[List.map_cons] at h2;unfold Fz at h2;split at h2
         ·rename_i l1 fy;split at h2
          ·rename_i hc;split at h2
           ·rename_i l2 bF;cases h2;obtain⟨b1,b2⟩:=b;have q1:=Ox aP m _ _ _ _ _ e1 fy;have q2:=ih _ _ _ e2 bF;rw[Nat.succ_mul] at q2;rw[xa,WG,hc,q2,q1]
           ·cases h2
          ·cases h2
         ·cases h2
       rw[List.range_eq_range'] at hx;have:=go n 0 xs l hx dW;rw[Nat.zero_mul,List.drop_zero,kL,←aF,List.take_length] at this;exact this
      ·cases hl
     ·cases hl
    ·cases h
   cases kd with
   |struct fs=>exact bt8 fs rfl
   |array n e=>exact bF3 n e rfl
   |bool=>
    unfold DataW.trod at h;rw[hu] at h;split at h<;>first|(simp at*;done)|skip
    all_goals(first|(cases h;simp only [hu] at hl;cases hl;rfl)|(simp_all;done))
   |int k=>
    unfold DataW.trod at h;rw[hu] at h;split at h<;>first|(simp at*;done)|skip
    all_goals(first|(split at h;(rename_i hq;cases h;simp only [hu] at hl;cases hl;rw[hq.1]);(cases h))|(simp_all;done))
   |string=>
    unfold DataW.trod at h;rw[hu] at h;split at h<;>first|(simp at*;done)|skip
    all_goals(first|(split at h;(cases h;simp only [hu] at hl;cases hl;rfl);(cases h))|(simp_all;done))
   |_=>
    exfalso;rw[hu] at hl;cases d with
    |lit q=>cases q<;>cases hl
    |_=>cases hl
theorem WY{w:World}:∀{laid:List (String×DataW Unit)} {ps:List MemPlace} {n:String} {d:DataW Unit},DataW.LaidVars P w laid ps→(n,d)∈laid→
 ∃g t cs aP p,P.globalNamed n=some g∧(P.globals[g]?).map (·.type)=some t∧w.var? P n=some cs∧DataW.trod (fun _=>()) P w 0 (fun _=>true) false aP t cs.toList=some (d,p)
 |[],_,_,_,_,h=>by cases h
 |(n',d')::r,ps,n,d,hl,h=>by
  obtain⟨g,t,cs,aP,p,q,h1,h2,h3,h4,h5,_⟩:=hl;cases h with
  |head=>exact⟨g,t,cs,aP,p,h1,h2,h3,h4⟩
  |tail _ h=>exact WY h5 h
theorem BM{w:World}{laid:List (String×DataW Unit)}(h:laidMetH P laid w)(hp:(laid.all fun x=>x.2.handleName?.isNone)=true){n:String}{d:DataW Unit}{g:Nat}{t:xN}{l:List xM}(m:Nat)(hm:(n,d)∈laid)
 (hg:P.globalNamed n=some g) (ht:(P.globals[g]?).map (·.type)=some t) (hl:Ax P m t d=some l):∃e fz,w.heap[g]? =some (.cells ⟨l⟩ e fz):=by
 rw[MakeChecks.laidMetH_plain _ _ _ hp] at h;obtain⟨ps,h1,_⟩:=h;obtain⟨g',t',cs,aP,p,e1,e2,e3,e4⟩:=WY h1 hm;rw[hg] at e1;cases e1;rw[ht] at e2;cases e2;have:=Ox aP m _ _ _ _ _ e4 hl;simp only [World.var?,hg,xB] at e3;split at e3
 ·rename_i bu e fz hh;cases e3;exact⟨e,fz,by rw[hh,←this]⟩
 ·cases e3
theorem xU:∀(k:Nat) (l:List (Option ap)) (i:Nat) (x:ap),(fill k l).get none i=some x→l[i]? =some (some x)
 |0,l,i,x,h=>by cases h
 |k+1,[],i,x,h=>by
  have h':(T.node (fill k []) none (fill k [])).get none i=some x:=h;rw[T.jz] at h';split at h'
  ·cases h'
  ·split at h'
   ·have:=xU k _ _ _ h';simp at this
   ·have:=xU k _ _ _ h';simp at this
 |k+1,a::r,i,x,h=>by
  have h':(T.node (fill k (alt r true)) a (fill k (alt r false))).get none i=some x:=h;rw[T.jz] at h';split at h'
  ·rename_i h0;subst h0;rw[h'];rfl
  ·split at h'
   ·have:=xU k _ _ _ h';rw[Ck] at this;rw[show i=2*(i/2)+1 by omega,List.getElem?_cons_succ];simpa using this
   ·have:=xU k _ _ _ h';rw[Ck] at this;rw[show i=(2*(i/2 - 1)+1)+1 by omega,List.getElem?_cons_succ];simpa using this
def yM(v:xM):Bool:=match v with| .bool _=>true| .int _ _=>true| .string _=>true|_=>false
theorem bh8(β:ah){v:xM}(h:yM v=true):ai β v v:=by
 unfold yM at h;split at h
 ·exact .bool _
 ·exact .int _ _
 ·exact .string _
 ·cases h
def vH(L:List (Option ap))(δ:Nat→Option D:=fun _=>none)(z:Nat→Option (Array xM):=fun _=>none):ah where
 f:=fun g=>match L[g]? with
  |some (some ⟨.cells cs,es,_,_,_⟩)=>some ⟨g,0,es,cs.length⟩
  |some none=>some ⟨g,0,0,0⟩
  |_=>none
 z:=z
 d:=δ
 x:=⟨fun _=>False,z⟩
 o:=fun _=>none
theorem Ff(L:List (Option ap))(δ:Nat→Option D)(z:Nat→Option (Array xM))(g:Nat):(vH L δ z) g=match L[g]? with|some (some ⟨.cells cs,es,_,_,_⟩)=>some ⟨g,0,es,cs.length⟩|some none=>some ⟨g,0,0,0⟩|_=>none:=rfl
def zZ(L:List (Option ap))(w:World):Prop:=∀g,g<L.length→L[g]? =some none∨∃cs es,L[g]? =some (some ⟨.cells cs,es,false,true,jY⟩)∧(cs.all yM)=true∧∃e fz,w.heap[g]? =some (.cells ⟨cs⟩ e fz)
theorem Oz{w:World}{k:Nat}{L:List (Option ap)}(hL:zZ L w):
 ∀(Q:(Nat→Option D)→Node→Prop) (LL:World→Prop) (δ:Nat→Option D) (z:Nat→Option (Array xM)) (tape:List Node),LL w→L.length≤w.heap.size→vd z w→(∀nd∈tape,Q δ nd)→Inv w ⟨L.length,Q,LL⟩ (vH L δ z) ((im k L).pop tape) w:=by
 intro Q LL δ z tape U8 aU bc htp;have Du:∀g l,vH L δ z g=some l→g<L.length∧l.b=g∧l.d=0∧(L[g]? =some none∨∃cs es e fz,L[g]? =some (some ⟨.cells cs,es,false,true,jY⟩)∧(cs.all yM)=true∧w.heap[g]? =some (.cells ⟨cs⟩ e fz)∧l=⟨g,0,es,cs.length⟩):=fun g l hl=>by
  have hg:g<L.length:=by
   rw[Ff] at hl;split at hl
   ·rename_i h;exact(xe.1 h).1
   ·rename_i h;exact(xe.1 h).1
   ·cases hl
  rcases hL g hg with h1|⟨cs,es,h1,h2,e,fz,h3⟩
  ·rw[Ff,h1] at hl;cases hl;exact⟨hg,rfl,rfl,.inl h1⟩
  ·rw[Ff,h1] at hl;cases hl;exact⟨hg,rfl,rfl,.inr ⟨cs,es,e,fz,h1,h2,h3,rfl⟩⟩
 have Au:(im k L).next=L.length:=dg L;refine⟨mu.refl _ _,fun B l h=> ?_,fun B h=> ?_,fun B l h=> ?_,fun B B' l l' h h' hb _ _=> ?_,fun B ao l h h'=> ?_,fun g hg=> ?_,bc,(fun B l kb hG h ha hs=>absurd (Du B l h).1 (Nat.not_lt.2 hG)),htp,fun B k' hk=> ?_,(fun B v h=>by cases h),U8,(fun b h=>h.elim),aU,fun b c h=> .inl h⟩
 ·show B<(im k L).next;rw[Au];exact(Du B l h).1
 ·have h:(im k L).next≤B:=h;rw[Au] at h;show(im k L).get B=none;cases hq:(im k L).get B with
  |none=>rfl
  |some x=>
   have:=xU k L B x hq;have:=(xe.1 this).1;omega
 ·obtain⟨hg,hb,_,_⟩:=Du B l h;exact⟨by rw[hb];omega,.inl hg⟩
 ·rw[(Du B l h).2.1,(Du B' l' h').2.1] at hb;exact hb
 ·obtain⟨hg,_,_,hq⟩:=Du B l h';have:=xU k L B ao h;rcases hq with h1|⟨cs,es,e,fz,h1,h2,hh,rfl⟩
  ·rw[h1] at this;cases this
  ·rw[h1] at this;cases this;refine⟨⟨cs⟩,e,fz,hh,by simp,by simp,(fun i v hv=>⟨v,by simpa using hv,bh8 _ (List.all_eq_true.1 h2 v (xu hv))⟩),(fun h=>by cases h),(fun h=>by cases h),rfl,(fun h=>absurd rfl h)⟩
 ·rcases hL g hg with h1|⟨cs,es,h1,h2,e,fz,h3⟩
  ·refine⟨⟨g,0,0,0⟩,?_,rfl,rfl⟩;rw[Ff,h1]
  ·refine⟨⟨g,0,es,cs.length⟩,?_,rfl,rfl⟩;rw[Ff,h1]
 ·have hq:=xU k L B k' hk;rcases hL B (xe.1 hq).1 with h1|⟨cs,es,h1,_⟩
  ·rw[hq] at h1;cases h1
  ·rw[hq] at h1;cases h1;trivial
def isTrue(v:xM):Bool:=match v with| .bool b=>b|_=>false
def DK(f:xM→Bool)(x:aZ xM):Bool:=match x with|none=>false|some l=>eo (fun p=>f p.1) l
theorem aW6{E:av}{call:cL→List xM→AW→aZ xM}(hc:fN P E call){f:FuncId}{A:AW}(h:DK isTrue (call (.fn f) [] A)=true){w:World}{β:ah}(inv:Inv w E.G β A w)(hx:∀k,¬β.x k):
 Calls P f #[] w fun e w'=>e= .returned (.bool true)∧Below w.heap.size w w':=by
 unfold DK at h;split at h
 ·cases h
 ·rename_i l hl;refine(hc w (.fn f) [] A l β w [] hl inv (aT.nil β)).mono fun e w' ⟨p,hp,ak,v',h1,h2,h3,h4,_⟩=> ?_
  have ht:=mq _ _ h p hp;unfold isTrue at ht;split at ht
  ·rename_i b hb;cases ht;rw[hb] at h2;cases h2;exact⟨h1,h3.below.below (fun k=>by rw[h4.x];exact hx k)⟩
  ·cases ht
end
def RdL(z:Nat→Option (Array xM))(ds:List D)(vs:List xM):Prop:=ds.length=vs.length∧∀(i:Nat) (d:D) (v:xM),ds[i]? =some d→vs[i]? =some v→Rd z d v
def N6(P:Program)(L:World→Prop)(f:FuncId)(ds:List D)(out:D):Prop:=
 ∀(w:World) (z:Nat→Option (Array xM)) (args':List xM),L w→vd z w→RdL z ds args'→
  Calls P f ⟨args'⟩ w fun e w'=>∃v z',e= .returned v∧Below w.heap.size w w'∧vd z' w'∧(∀b c,z b=some c→z' b=some c)∧(∀b c,z' b=some c→z b=some c∨w.heap.size≤b)∧Rd z' out v
def cP9(P:Program)(L:World→Prop)(δ:Nat→Option D)(nd:Node)(f:FuncId):Prop:=
 ∃ds d,aW (bT δ) nd.args=some ds∧res δ nd.res=some d∧N6 P L f ds d
def GQ(P:Program)(L:World→Prop)(δ:Nat→Option D)(nd:Node):Prop:=
 match nd.k with
 | .call f=>cP9 P L δ nd f
 |_=>dw δ nd
theorem GQ.op{P:Program}{L:World→Prop}{δ:Nat→Option D}{nd:Node}(h:GQ P L δ nd):dw δ nd:=by
 unfold GQ at h;split at h
 ·rename_i f hk;unfold dw;rw[hk];trivial
 ·exact h
section
variable{P:Program}{E:av}(ok:E.Ok P){w0 w:World}{β:ah}{A:AW}(inv:Inv w0 E.G β A w)
include ok inv in
theorem Inv.laid:E.G.L w:=ok.lx w0 w inv.lay fun b hb=>inv.below.block b (xK hb inv.jv) (fun hx=>by have:=inv.xg b hx;omega)
theorem Inv.fresh(inv:Inv w0 E.G β A w){w':World}{z':Nat→Option (Array xM)}(hb:Below w.heap.size w w')(bc:vd z' w')(h1:∀b c,β.z b=some c→z' b=some c)(h2:∀b c,z' b=some c→β.z b=some c∨w.heap.size≤b):
 Inv w0 E.G {β with z:=z'} A w'∧β.grow {β with z:=z'} A.next:=by
 have hg:β.grow {β with z:=z'} A.next:=⟨fun _ _=>rfl,h1,fun _ _=>rfl,rfl,rfl⟩;have aR:=inv.fY hg;refine⟨⟨inv.below.trans ⟨hb.os,hb.tape,hb.output,hb.size,fun k hk _=>hb.block k hk⟩,inv.gU,inv.dh,fun B l e=>⟨xK (inv.loc B l e).1 hb.size,(inv.loc B l e).2⟩,inv.inj,fun B ao l hk e=> ?_,inv.jm,bc,fun B l ao hG e hk hs=> ?_,inv.fw,
  fun B k hk=>(inv.own B k hk).mono aR,inv.jj,inv.lay,inv.xg,inv.jv,fun b c h=>(h2 b c h).elim (fun h=>inv.zo b c h) (fun h=> .inr (.inl (xH inv.below.size h)))⟩,hg⟩
 ·rw[hb.block l.b (inv.loc B l e).1];exact(inv.cont B ao l hk e).mono aR
 ·cases hz:z' l.b with
  |none=>exact hz
  |some c=>
   exfalso;rcases h2 _ _ hz with h|h
   ·have:=inv.sep B l ao hG e hk hs;rw[this] at h;cases h
   ·have:=(inv.loc B l e).1;omega
end
theorem bo5{β:ah}:∀{vs args':List xM} {ds:List D},aW (bT β.d) vs=some ds→aT β vs args'→RdL β.z ds args':=fun{vs args' ds} h hl=>
 ⟨(kT h).trans hl.1,fun i d v hd hv=>by
  have hi:i<vs.length:=by rw[hl.1];exact(xe.1 hv).1
  exact gL (jZ h hd (xc hi)) (hl.2 i _ _ (xc hi) hv)⟩
theorem bd4{P:Program}{E:av}{call:cL→List xM→AW→aZ xM}(hc:fN P E call){L:List (Option ap)}{Q:(Nat→Option D)→Node→Prop}{LL:World→Prop}(hG:E.G=⟨L.length,Q,LL⟩)
 (hL:∀w,LL w→L.length≤w.heap.size∧zZ L w)
 {k:Nat} {f:FuncId} {args:List xM} {tape:List Node} {rv:xM} (aM:DK (fun v=>ud v rv) (call (.fn f) args ((im k L).pop tape))=true) {δ:Nat→Option D} {ds:List D} {out:D}
 (il:aW (ji δ) args=some ds) (qK:Is δ rv=some out) (hn:∀nd∈tape,Q δ nd):N6 P LL f ds out:=by
 intro w z args' Es bc eC;unfold DK at aM;split at aM
 ·cases aM
 ·rename_i bh ho;have inv:=Oz (k:=k) (hL w Es).2 Q LL δ z tape Es (hL w Es).1 bc hn;rw[←hG] at inv;have gR:aT (vH L δ z) args args':=⟨(kT il).symm.trans eC.1,fun i v v' hv du=>by
   have hi:i<ds.length:=by rw[eC.1];exact(xe.1 du).1
   exact wY (β:=vH L δ z) (jZ il (xc hi) hv) (eC.2 i _ _ (xc hi) du)⟩
  refine(hc w (.fn f) args _ bh _ w args' ho inv gR).mono fun e w' hp=> ?_
  obtain⟨p,hp,ak,v',he,hv,hi,hg,_⟩:=hp;have UK:=Fb (mq _ _ aM p hp);refine⟨v',ak.z,he,hi.below.below (fun k=>by rw[hg.x];exact fun h=>h),hi.bH,hg.z,fun b c h=> ?_,bI7 (by rw[hg.d,UK];exact qK) hv⟩;have:=hi.zo b c h;rw[hg.x] at this;exact this.imp id (fun h=>h.elim id (fun h=>h.elim))
abbrev A7:=List (Nat×List xM×xM)
def MH(f:Nat)(args:List xM)(l:A7):Option xM:=
 List.rec (motive:=fun _=>Option xM) none (fun e _ ih=>bs (Nat.beq f e.1) (bs (Df args e.2.1) (some e.2.2) ih) ih) l
theorem OJ{f:Nat}{args:List xM}{v:xM}:∀{l:A7},MH f args l=some v→(f,args,v)∈l
 |[],h=>by cases h
 |e::l,h=>by
  have h':bs (Nat.beq f e.1) (bs (Df args e.2.1) (some e.2.2) (MH f args l)) (MH f args l)=some v:=h;rcases aB h' with⟨h1,h2⟩|⟨_,h2⟩
  ·rcases aB h2 with⟨h3,h2⟩|⟨_,h2⟩
   ·cases h2;obtain⟨a,b,c⟩:=e;have e1:=xb h1;have e2:=I9 _ _ h3;simp only at e1 e2;subst e1 e2;exact xn
   ·exact xo _ (OJ h2)
  ·exact xo _ (OJ h2)
def tU(l:A7)(t:cL)(args:List xM)(A:AW):aZ xM:=
 match t with
 | .rd _=>none
 | .dy _=>none
 | .fn f=>match MH f args l with|some v=>some [(v,A)]|none=>none
def JN(call:cL→List xM→AW→aZ xM)(A:AW)(e:Nat×List xM×xM):Bool:=
 DK (fun v=>ud v e.2.2) (call (.fn e.1) e.2.1 A)&& (aW (ji (fun _=>none)) e.2.1).isSome&& (res (fun _=>none) e.2.2).isSome
theorem be1{δ:Nat→Option D}{v:xM}{d:D}(h:bQ (fun _=>none) v=some d):bQ δ v=some d:=by
 unfold bQ at*;split at h
 ·cases h
 all_goals exact h
theorem oH{g g':xM→Option D}(hg:∀v d,g v=some d→g' v=some d):∀{l:List xM} {ds:List D},aW g l=some ds→aW g' l=some ds
 |[],_,h=>h
 |v::l,ds,h=>by
  obtain⟨d,r,rfl,h1,h2⟩:=kw h;unfold aW;rw[hg _ _ h1,oH hg h2]
theorem Wi{δ:Nat→Option D}{v:xM}{d:D}(h:gp (fun _=>none) v=some d):gp δ v=some d:=by
 unfold gp at*;split at h
 ·cases h
 ·exact be1 h
theorem OB{δ:Nat→Option D}{v:xM}{d:D}(h:ji (fun _=>none) v=some d):ji δ v=some d:=by
 unfold ji at*;split at h
 ·obtain⟨ds,h1,rfl⟩:=xp.1 h;simp only [oH (fun v d=>Wi) h1,Option.map_some]
 ·exact Wi h
theorem bh9{δ:Nat→Option D}{v:xM}{d:D}(h:res (fun _=>none) v=some d):res δ v=some d:=by
 unfold res at*;split at h
 ·obtain⟨ds,h1,rfl⟩:=xp.1 h;simp only [oH (fun v d=>OB) h1,Option.map_some]
 ·exact OB h
theorem WN{δ:Nat→Option D}{v:xM}{d:D}(h:gp δ v=some d):bQ δ v=some d:=by
 unfold gp at h;split at h
 ·cases h
 ·exact h
theorem OU{δ:Nat→Option D}{v:xM}{d:D}(h:ji δ v=some d):bT δ v=some d:=by
 unfold ji at h;unfold bT;split at h
 ·obtain⟨ds,h1,rfl⟩:=xp.1 h;simp only [oH (fun v d=>WN) h1,Option.map_some]
 ·exact WN h
theorem bq8{δ:Nat→Option D}{v:xM}{d:D}(h:res δ v=some d):Is δ v=some d:=by
 unfold res at h;unfold Is;split at h
 ·obtain⟨ds,h1,rfl⟩:=xp.1 h;simp only [oH (fun v d=>OU) h1,Option.map_some]
 ·exact OU h
theorem xY{P:Program}{E:av}(ok:E.Ok P){l:A7}(h:∀f args v,(f,args,v)∈l→∃ds d,aW (ji (fun _=>none)) args=some ds∧res (fun _=>none) v=some d∧N6 P E.G.L f ds d):fN P E (tU l):=by
 intro w0 t args A bh β w args' ho inv il;unfold tU at ho;split at ho
 ·cases ho
 ·cases ho
 ·rename_i f;split at ho
  ·rename_i v hv;cases ho;obtain⟨ds,d,e1,e2,e3⟩:=h f args v (OJ hv);refine(e3 w β.z args' (inv.laid ok) inv.bH (bo5 (oH (fun v d h=>OU (OB h)) e1) il)).mono fun e w' hp=> ?_
   obtain⟨v',z',rfl,hb,bc,z1,z2,hr⟩:=hp;obtain⟨hi,hg⟩:=inv.fresh hb bc z1 z2;exact⟨_,xn,{β with z:=z'},v',rfl,bq7 (β:={β with z:=z'}) (bh9 e2) hr,hi,hg,xk _⟩
  ·cases ho
theorem x9{P:Program}{E:av}{call:cL→List xM→AW→aZ xM}(hc:fN P E call){L:List (Option ap)}{Q:(Nat→Option D)→Node→Prop}{LL:World→Prop}(hG:E.G=⟨L.length,Q,LL⟩)
 (hL:∀w,LL w→L.length≤w.heap.size∧zZ L w)
 {k:Nat} {l:A7} (h:eo (JN call (im k L)) l=true):∀f args v,(f,args,v)∈l→∃ds d,aW (ji (fun _=>none)) args=some ds∧res (fun _=>none) v=some d∧N6 P LL f ds d:=fun f args v hm=>by
 have:=mq _ _ h _ hm;unfold JN at this;simp only [xf] at this;obtain⟨⟨h1,h2⟩,h3⟩:=this;obtain⟨ds,hds⟩:=Option.isSome_iff_exists.1 h2;obtain⟨d,hd⟩:=Option.isSome_iff_exists.1 h3;exact⟨ds,d,hds,hd,bd4 (k:=k) (tape:=[]) hc hG hL h1 (δ:=fun _=>none) hds (bq8 hd) (fun nd h=>by cases h)⟩
section
variable{P:Program}
end
section
variable{γ:Type}(E:av)(sq:List (Nat×List xO))(call:cL→List xM→AW→aZ xM)(n:Nat)
abbrev KU(γ:Type):=List Item→Fr→AW→Option (List γ)
def Yp(bL:List Oper→Fr→AW→aZ Fr)(fin:Fr→AW→Option (List γ))(head ih:KU γ)(eh:List Item)(fr:Fr)(A:AW):Option (List γ):=
 match eh with
 |[]=>fin fr A
 | .code .ret::_=>fin fr A
 | .code .skip::k=>ih k fr A
 | .code (.label _)::k=>ih k fr A
 | .code (.seq a b)::k=>ih (.code a:: .code b::k) fr A
 | .code (.cond c x y)::k=>match ev E (fr.get J) c with
  | .bool b=>ih (.code (bs b x y)::k) fr A
  |_=>none
 | .code (.block id c)::k=>ih (.code c:: .inBlock id::k) fr A
 | .code (.loop c)::k=>head (.code c:: .inLoop c::k) fr A
 | .code (.scope c)::k=>ih (.code c:: .inScope c::k) fr A
 | .code (.exit id)::k=>match exitTo id k with|some k'=>ih k' fr A|none=>none
 | .code (.goto l)::k=>match gotoIn l k with|some k'=>ih k' fr A|none=>none
 | .code (.region _ ⟨ops⟩ false)::k=>j7 (tV E sq call n ops ops fr A) (fun p=>ih k p.1 p.2)
 | .code (.region _ ⟨ops⟩ true)::k=>j7 (bL ops fr A) (fun p=>ih k p.1 p.2)
 | .inBlock _::k=>ih k fr A
 | .inScope _::k=>ih k fr A
 | .inLoop c::k=>head (.code c:: .inLoop c::k) fr A
 |_=>none
abbrev UT(γ:Type):=List Item→av→List (Nat×List xO)→(cL→List xM→AW→aZ xM)→Nat→(List Oper→Fr→AW→aZ Fr)→(Fr→AW→Option (List γ))→KU γ→KU γ→Fr→AW→Option (List γ)
def cJ8(c:Code):UT γ:=
 Code.rec (motive:=fun _=>UT γ)
  (fun k _ _ _ _ _ _ _ ih fr A=>ih k fr A)
  (fun _ ops dr k E sq call n bL _ _ ih fr A=>bs dr (j7 (bL ops.toList fr A) (fun p=>ih k p.1 p.2)) (j7 (tV E sq call n ops.toList ops.toList fr A) (fun p=>ih k p.1 p.2)))
  (fun a b _ _ k _ _ _ _ _ _ _ ih fr A=>ih (.code a:: .code b::k) fr A)
  (fun c x y _ _ k E _ _ _ _ _ _ ih fr A=>match ev E (fr.get J) c with| .bool b=>ih (.code (bs b x y)::k) fr A|_=>none)
  (fun id c _ k _ _ _ _ _ _ _ ih fr A=>ih (.code c:: .inBlock id::k) fr A)
  (fun c _ k _ _ _ _ _ _ head _ fr A=>head (.code c:: .inLoop c::k) fr A)
  (fun _ _ _ _ _ _ _ _ _ _ _ _ _ _ _ _ _=>none)
  (fun id k _ _ _ _ _ _ _ ih fr A=>match exitTo id k with|some k'=>ih k' fr A|none=>none)
  (fun c _ k _ _ _ _ _ _ _ ih fr A=>ih (.code c:: .inScope c::k) fr A)
  (fun _ k _ _ _ _ _ _ _ ih fr A=>ih k fr A)
  (fun l k _ _ _ _ _ _ _ ih fr A=>match gotoIn l k with|some k'=>ih k' fr A|none=>none)
  (fun _ _ _ _ _ _ fin _ _ fr A=>fin fr A)
  (fun _ _ _ _ _ _ _ _ _ _ _ _=>none) c
def cl8(i:Item):UT γ:=
 Item.rec (motive:=fun _=>UT γ)
  (fun c=>cJ8 c)
  (fun _ k _ _ _ _ _ _ _ ih fr A=>ih k fr A)
  (fun c k _ _ _ _ _ _ head _ fr A=>head (.code c:: .inLoop c::k) fr A)
  (fun _ k _ _ _ _ _ _ _ ih fr A=>ih k fr A)
  (fun _ _ _ _ _ _ _ _ _ _ _ _ _=>none)
  (fun _ _ _ _ _ _ _ _ _ _ _ _=>none)
  (fun _ _ _ _ _ _ _ _ _ _ _ _=>none)
  (fun _ _ _ _ _ _ _ _ _ _ _=>none)
  (fun _ _ _ _ _ _ _ _ _ _ _ _ _ _ _=>none)
  (fun _ _ _ _ _ _ _ _ _ _ _ _ _=>none) i
def QG(bL:List Oper→Fr→AW→aZ Fr)(fin:Fr→AW→Option (List γ))(head ih:KU γ)(eh:List Item)(fr:Fr)(A:AW):Option (List γ):=
 List.rec (motive:=fun _=>av→List (Nat×List xO)→(cL→List xM→AW→aZ xM)→Nat→(List Oper→Fr→AW→aZ Fr)→(Fr→AW→Option (List γ))→KU γ→KU γ→Fr→AW→Option (List γ))
  (fun _ _ _ _ _ fin _ _ fr A=>fin fr A) (fun i k _=>cl8 i k) eh E sq call n bL fin head ih fr A
theorem bh0(bL:List Oper→Fr→AW→aZ Fr)(fin:Fr→AW→Option (List γ))(head ih:KU γ)(eh:List Item)(fr:Fr)(A:AW):QG E sq call n bL fin head ih eh fr A=Yp E sq call n bL fin head ih eh fr A:=by
 cases eh with
 |nil=>rfl
 |cons i k=>
  cases i with
  |code c=>
   cases c with
   |region id ops dr=>obtain⟨ops⟩:=ops;cases dr<;>rfl
   |_=>rfl
  |_=>rfl
def tT(bL:List Oper→Fr→AW→aZ Fr)(fin:Fr→AW→Option (List γ))(cut:KU γ)(aP:Nat):Nat→KU γ:=
 Nat.rec (motive:=fun _=>Nat→KU γ) (fun _ _ _ _=>none)
  (fun _ ih m=>QG E sq call n bL fin (Nat.rec (motive:=fun _=>KU γ) cut (fun m _=>ih m) m) (ih m)) aP
end
section
variable{P:Program}{E:av}{sq:List (Nat×List xO)}(ok:E.Ok P)(aY:E.Seq P sq){w0:World}{γ:Type}
structure Stood (P:Program) (w0:World) (G:GP) (n:Nat) (b:Frame) (cs:List Frame) (β:ah) (A:AW) (m0:Machine) (fin:Fr→AW→Option (List γ)) (cut:KU γ) (bh:List γ):Prop where
 ex:∃(l:List γ) (td:List Item) (cP:Fr) (A':AW) (ak:ah) (a':Act) (w':World),(∀c∈l,c∈bh)∧bX ak n (cP.get J) a'.tmps∧Inv w0 G ak A' w'∧β.grow ak A.next∧A.next≤A'.next∧a'.defers=[]∧
  ((fin cP A'=some l∧Steps P m0 (lone {b.atR a' td with mode:= .returning} cs w'))∨(cut td cP A'=some l∧Steps P m0 (lone (b.atR a' td) cs w')))
theorem Stood.mono{G:GP}{n:Nat}{b:Frame}{cs:List Frame}{β aO:ah}{A A1:AW}{m0 m1:Machine}{fin:Fr→AW→Option (List γ)}{cut:KU γ}{bh FM:List γ}(h:Stood P w0 G n b cs aO A1 m1 fin cut FM)(hg:β.grow aO A.next)(hn:A.next≤A1.next)(Tl:∀c∈FM,c∈bh)(hs:Steps P m0 m1):
 Stood P w0 G n b cs β A m0 fin cut bh:=by
 obtain⟨l,td,cP,A',ak,a',w',h1,h2,h3,h4,h5,h6,h7⟩:=h.ex;exact⟨l,td,cP,A',ak,a',w',fun c hc=>Tl c (h1 c hc),h2,h3,ah.iB hg h4 hn,xH hn h5,h6,h7.imp (fun⟨x,y⟩=>⟨x,Steps.trans hs y⟩) (fun⟨x,y⟩=>⟨x,Steps.trans hs y⟩)⟩
include ok aY in
theorem Je{call:cL→List xM→AW→aZ xM}(hc:fN P E call){n:Nat}{bL:List Oper→Fr→AW→aZ Fr}(jW:tE P E n bL){b:Frame}{cs:List Frame}(hb:b.roundOf=none){fin:Fr→AW→Option (List γ)}{cut:KU γ}:
 ∀(aP m:Nat) (eh:List Item) (fr:Fr) (A:AW) (bh:List γ) (β:ah) (a:Act) (w:World),tT E sq call n bL fin cut aP m eh fr A=some bh→bX β n (fr.get J) a.tmps→Inv w0 E.G β A w→a.defers=[]→
  Stood P w0 E.G n b cs β A (lone (b.atR a eh) cs w) fin cut bh
 |0,m,eh,fr,A,bh,β,a,w,h,hf,inv,hd=>by cases h
 |aP+1,m,eh,fr,A,bh,β,a,w,h,hf,inv,hd=>by
  have h':QG E sq call n bL fin (Nat.rec (motive:=fun _=>KU γ) cut (fun m _=>tT E sq call n bL fin cut aP m) m) (tT E sq call n bL fin cut aP m) eh fr A=some bh:=h;clear h;rw[bh0] at h';have go:∀m nZ,tT E sq call n bL fin cut aP m nZ fr A=some bh→step P (lone (b.atR a eh) cs w)= .next (lone (b.atR a nZ) cs w)→Stood P w0 E.G n b cs β A (lone (b.atR a eh) cs w) fin cut bh:=fun m nZ h1 h2=>
   (Je hc jW hb aP m nZ fr A bh β a w h1 hf inv hd).mono (ah.ca _ _) (xk _) (fun _ h=>h) (.one h2)
  have goH:∀nZ,(Nat.rec (motive:=fun _=>KU γ) cut (fun m _=>tT E sq call n bL fin cut aP m) m:KU γ) nZ fr A=some bh→step P (lone (b.atR a eh) cs w)= .next (lone (b.atR a nZ) cs w)→Stood P w0 E.G n b cs β A (lone (b.atR a eh) cs w) fin cut bh:=fun nZ h1 h2=>by
   cases m with
   |zero=>exact⟨bh,nZ,fr,A,β,a,w,fun _ h=>h,hf,inv,ah.ca _ _,xk _,hd,.inr ⟨h1,.one h2⟩⟩
   |succ m=>exact go m nZ h1 h2
  have aJ1:∀td,fin fr A=some bh→step P (lone (b.atR a eh) cs w)= .next (lone {b.atR a td with mode:= .returning} cs w)→Stood P w0 E.G n b cs β A (lone (b.atR a eh) cs w) fin cut bh:=fun td h1 h2=>
   ⟨bh,td,fr,A,β,a,w,fun _ h=>h,hf,inv,ah.ca _ _,xk _,hd,.inl ⟨h1,.one h2⟩⟩
  have region:∀id ops dr k fj,eh= .code (.region id ⟨ops⟩ dr)::k→(Code.region id ⟨ops⟩ dr).wpIn (jC b.roundOf) 0 P (fun e a' w'=>e= .normal∧oU w0 E.G n β A a.defers fj a' w') a w→(∀p∈fj,∃r,tT E sq call n bL fin cut aP m k p.1 p.2=some r∧∀c∈r,c∈bh)→
   Stood P w0 E.G n b cs β A (lone (b.atR a eh) cs w) fin cut bh:=fun id ops dr k fj ht Uy fE=>by
   subst ht;obtain⟨e,a1,w1,⟨rfl,p,hp,aO,g1,g2,g3,g4,g5⟩,TE⟩:=Uy b k cs rfl trivial (Z2 _ _);obtain⟨r,ep,bK⟩:=fE p hp;exact(Je hc jW hb aP m k p.1 p.2 r aO a1 w1 ep g1 g2 (g5.trans hd)).mono g3 g4 bK (StepsIn.steps TE)
  unfold Yp at h';split at h'
  ·exact aJ1 _ h' (stepR_end hb)
  ·exact aJ1 _ h' (stepR_ret hb)
  ·exact go _ _ h' stepR_skip
  ·exact go _ _ h' stepR_label
  ·exact go _ _ h' stepR_seq
  ·rename_i c x y k;have hv:=ky (a:=a) inv hf c;split at h'
   ·rename_i t ht;rw[ht] at hv;generalize wE:a.eval c=cv at hv;cases hv;refine go _ _ h' ?_;have:=stepR_cond (P:=P) (b:=b) (k:=k) (cs:=cs) (w:=w) (x:=x) (y:=y) wE;rw[this];cases t<;>rfl
   ·cases h'
  ·exact go _ _ h' stepR_block
  ·exact goH _ h' stepR_loop
  ·exact go _ _ h' VH
  ·split at h'
   ·rename_i hk;exact go _ _ h' (stepR_exit hk)
   ·cases h'
  ·split at h'
   ·rename_i hk;exact go _ _ h' (stepR_goto hk)
   ·cases h'
  ·rename_i id ops k;obtain⟨fj,h1,h2⟩:=uO h';refine region id ops false k fj rfl ?_ h2;exact wpIn_region_list (Cu ok aY hc ops fr A fj β a w _ h1 hf inv rfl (fun a' w' hp=>⟨rfl,hp⟩))
  ·rename_i id ops k;obtain⟨fj,h1,h2⟩:=uO h';exact region id ops true k fj rfl (jW _ w0 ops fr A fj β a w id h1 hf inv) h2
  ·exact go _ _ h' stepR_inBlock
  ·exact go _ _ h' Vs
  ·exact goH _ h' stepR_inLoop
  ·cases h'
end
def heads:Code→List Item→List (List Item)
 | .seq a b,k=>heads a (.code b::k)++heads b k
 | .cond _ x y,k=>heads x k++heads y k
 | .block id c,k=>heads c (.inBlock id::k)
 | .loop c,k=>(.code c:: .inLoop c::k)::heads c (.inLoop c::k)
 | .scope c,k=>heads c (.inScope c::k)
 |_,_=>[]
structure aI where
 tm:List (Nat×xM)
 hp:List ap
def pb(K:Nat)(tm:List (Nat×xM)):Fr:=List.rec (motive:=fun _=>Fr) (T.full J K) (fun p _ ih=>T.set ih p.1 p.2) tm
theorem PF(K:Nat):∀(tm:List (Nat×xM)) (t:Nat),(pb K tm).get J t=J∨∃tv,(t,tv)∈tm∧(pb K tm).get J t=tv
 |[],t=> .inl (by rcases T.BK J J K t with e|e<;>exact e)
 |p::tm,t=>by
  by_cases ht:p.1=t
  ·subst ht;rcases T.wT J (pb K tm) p.1 p.2 with e|⟨e,_⟩
   ·exact .inr ⟨p.2,xn,e⟩
   ·exact .inl e
  ·have e:(pb K (p::tm)).get J t=(pb K tm).get J t:=T.uN J (pb K tm) p.1 t p.2 ht;rw[e];exact(PF K tm t).imp id fun⟨tv,h1,h2⟩=>⟨tv,xo _ h1,h2⟩
def z9(l:List ap):List (Option ap):=ez some l
def aI.aw(T:aI)(k:Nat)(L:List (Option ap))(tape:List Node):AW:=(im k (aj L (z9 T.hp))).pop tape
def cq:Nat:=4294967290
def Jr(v:xM):Bool:=
 match v with
 | .int _ _=>true
 | .bool _=>true
 | .string _=>true
 | .pointer none=>true
 | .slice none 0 0=>true
 | .nilFunc=>true
 | .nilIface=>true
 | .map none=>true
 |_=>false
theorem Of{β cT:ah}{v v':xM}(h:Jr v=true)(hv:ai β v v'):ai cT v v':=by
 unfold Jr at h;split at h
 ·cases hv;exact .int _ _
 ·cases hv;exact .bool _
 ·cases hv;exact .string _
 ·cases hv;exact .oX
 ·cases hv;exact .tz
 ·cases hv;exact .nilFunc
 ·cases hv;exact .nilIface
 ·cases hv;exact .AN
 ·cases h
def rz(A:AW)(v:xM):xM:=
 match v with
 | .iface B (.chan (some (c+1)))=>match A.get B with
  |some ⟨.own (.chan (some (c'+1))),_,_,_,_⟩=> .iface B (.chan (some (c'+1)))
  |_=> .iface B (.chan (some (c+1)))
 |v=>v
theorem Inv.zV{w0 w:World}{G:GP}{β:ah}{A:AW}(inv:Inv w0 G β A w):∀v v',ai β v v'→ai β (rz A v) v':=fun v v' h=>by
 unfold rz;split
 ·rename_i B c;split
  ·rename_i c' es ex ro ty hg;have ho:=inv.own B _ hg;obtain⟨rows,h1,h2⟩:=ho;have mf:β.d c'=some (.sl rows):=by
    obtain⟨x,hx,h1⟩:=xr.1 (show(β.d c').bind (fun x=>if x.cell then some x else none)=_ from h1);split at h1<;>cases h1
    exact hx
   cases h with
   |own _ _ QL a cap ho ha hd=>
    rcases h2 with⟨e1,e2⟩|⟨l,cap',e1,e2,e3⟩
    ·rw[ho] at e2;injection e2 with e2;injection e2 with e4 e5 e6;subst e1 e4 e6;rw[e5] at ho⊢;exact .own B c' [] none 0 ho (.inl ⟨rfl,rfl⟩) mf
    ·rw[ho] at e2;injection e2 with e2;injection e2 with e4 e5 e6;subst e4 e6;rw[e5] at ho⊢;exact .own B c' rows _ cap ho (.inr ⟨l,e1,rfl⟩) mf
  ·exact h
 ·exact h
section
variable(G:Nat)(ρ:List Nat)(aS:List xM)(A:AW)
def AJ(B B':Nat):Bool:=bs (Nat.blt B G) (Nat.beq B B') (match dj ρ (Nat.sub B G) with|some x=>bs (Nat.beq x cq) false (Nat.beq x B')|none=>false)
def Sh(B:Nat):Bool:=bs (Nat.blt B G) false (match dj ρ (Nat.sub B G) with|some x=>Nat.beq x cq|none=>false)
def AI(tc v:xM):Bool:=match tc with| .chan (some (c+1))=>(match dj aS c with|some s=>pC s v|none=>false)|_=>false
def YQ(v:xM):Bool:=match v with| .slice none 0 0=>true|_=>false
def GD(tv v:xM):Bool:=
 match tv with
 | .chan (some 0)=>true
 | .chan (some (c+1))=>match dj aS c with|some s=>pC s v|none=>false
 | .iface B (.chan (some (c+1)))=>(match v with| .iface B' cv=>Nat.ble G B&&AJ G ρ B B'&&iH cv&&AI aS (.chan (some (c+1))) cv|v=>Sh G ρ B&&YQ v&&AI aS (.chan (some (c+1))) v)
 | .map (some B)=>(match v with| .map (some B')=>AJ G ρ B B'|_=>false)
 | .pointer (some ⟨B,o,none⟩)=>(match v with| .pointer (some ⟨B',o',none⟩)=>AJ G ρ B B'&&Nat.beq o o'|_=>false)
 | .slice (some ⟨B,o,none⟩) n c=>(match v with| .slice (some ⟨B',o',none⟩) n' c'=>AJ G ρ B B'&&Nat.beq o o'&&Nat.beq n n'&&Nat.beq c c'&&Nat.ble n c&&bs (Nat.beq B rZ) false true&&bs (Nat.beq B' rZ) false true|_=>false)
 |tv=>Jr tv&&pC tv v
def Fw(tv:List xM):List xM→Bool:=
 List.rec (motive:=fun _=>List xM→Bool) (fun b=>List.rec (motive:=fun _=>Bool) true (fun _ _ _=>false) b)
  (fun x _ ih b=>List.rec (motive:=fun _=>Bool) false (fun y t _=>bs (GD G ρ aS x (rz A y)) (ih t) false) b) tv
def Ap(tv v:xM):Bool:=
 match tv with
 | .agg ⟨l⟩=>(match v with| .agg ⟨l'⟩=>Fw G ρ aS A l l'|_=>false)
 | .func (.func f) ⟨p⟩ ⟨q⟩=>(match v with| .func (.func f') ⟨p'⟩ ⟨q'⟩=>Nat.beq f f'&&Fw G ρ aS A p p'&&Fw G ρ aS A q q'|_=>false)
 |tv=>GD G ρ aS tv (rz A v)
def Fv(tv:List xM):List xM→Bool:=
 List.rec (motive:=fun _=>List xM→Bool) (fun b=>List.rec (motive:=fun _=>Bool) true (fun _ _ _=>false) b)
  (fun x _ ih b=>List.rec (motive:=fun _=>Bool) false (fun y t _=>bs (Ap G ρ aS A x y) (ih t) false) b) tv
def tP(tb b:ap):Bool:=
 match tb,b with
 |⟨.cells cs,es,ex,ro,ty⟩,⟨.cells bu,aD,kr,kg,iX⟩=>Nat.beq es aD&&pM ex kr&&pM ro kg&&Nat.beq ty iX&&Fv G ρ aS A cs bu
 |⟨.own tc,es,ex,ro,ty⟩,⟨.own c,aD,kr,kg,iX⟩=>Nat.beq es aD&&pM ex kr&&pM ro kg&&Nat.beq ty iX&&iH tc&&iH c&&AI aS tc c
 |⟨.maps tc,es,ex,ro,ty⟩,⟨.maps c,aD,kr,kg,iX⟩=>Nat.beq es aD&&pM ex kr&&pM ro kg&&Nat.beq ty iX&&AI aS tc c
 |_,_=>false
def GC(tb:ap):Bool:=
 match tb with
 |⟨.own tc,_,_,_,_⟩=>iH tc&&AI aS tc (.slice none 0 0)
 |_=>false
def Qe(hp:List ap):List Nat→Bool:=
 List.rec (motive:=fun _=>List Nat→Bool) (fun b=>List.rec (motive:=fun _=>Bool) true (fun _ _ _=>false) b)
  (fun x _ ih b=>List.rec (motive:=fun _=>Bool) false (fun y t _=>bs (bs (Nat.beq y cq) (GC aS x) (Nat.ble G y&& (match A.get y with|some ao=>tP G ρ aS A x ao|none=>false))) (ih t) false) b) hp
def cm0(fr:Fr)(tm:List (Nat×xM)):Bool:=eo (fun p=>Ap G ρ aS A p.2 (fr.get J p.1)) tm
def RV(L:List (Option ap)):Nat→Bool:=
 List.rec (motive:=fun _=>Nat→Bool) (fun _=>true) (fun x _ ih i=>bs (AL (A.get i) x) (ih (Nat.succ i)) false) L
def nodupB(l:List Nat):Bool:=List.rec (motive:=fun _=>Bool) true (fun x t ih=>bs (bs (Nat.beq x cq) true (eo (fun y=>bs (Nat.beq x y) false true) t)) ih false) l
end
def Ao(L:List (Option ap))(T:aI)(ρ:List Nat)(aS:List xM)(fr:Fr)(A:AW):Bool:=
 cm0 (bE L) ρ aS A fr T.tm&&Qe (bE L) ρ aS A T.hp ρ&&RV A L 0&&nodupB ρ
section
variable{G:Nat}{ρ:List Nat}{aS:List xM}{β dZ:ah}{A:AW}
theorem I1{v:xM}(h:iH v=true):∃c,v= .chan (some (c+1)):=by
 unfold iH at h;split at h
 ·exact⟨_,rfl⟩
 ·cases h
def SD(β:ah)(s:xM)(d:D):Prop:=d.cell=true∧(∀v',ai β s v'→Rd β.z d v')∧∀d',bQ β.d s=some d'→d'=d
theorem bB1{s:xM}{d:D}(h:bQ β.d s=some d):SD β s d:=by
 refine⟨?_,fun v' hv=>(E9 h hv).1,fun d' h'=>xC (h'.symm.trans h)⟩;unfold bQ at h;split at h
 ·obtain⟨x,hx,h⟩:=xr.1 h;split at h<;>cases h
  assumption
 all_goals first|(cases h;rfl)|cases h
structure oY (G:Nat) (ρ:List Nat) (aS:List xM) (β dZ:ah):Prop where
 g:∀B,B<G→dZ B=β B
 l:∀B x,G≤B→ρ[B - G]? =some x→x≠cq→dZ B=β x∧dZ.o B=β.o x
 m:∀B,G≤B→ρ[B - G]? =some cq→dZ B=none∧dZ.o B=some (.slice none 0 0)
 n:∀B,G≤B→ρ[B - G]? =none→dZ B=none
 og:∀B v,dZ.o B=some v→G≤B∧B<G+ρ.length
 z:dZ.z=β.z
 x:dZ.x=β.x
 d:∀(c:Nat) (s:xM),aS[c]? =some s→∃d,dZ.d c=some d∧SD β s d
theorem Fe{x:Nat}(h:Nat.beq x cq=false):x≠cq:=fun e=>by rw[e] at h;exact absurd h (by decide)
theorem Qx{a b:Nat}(h:Nat.blt a b=false):b≤a:=Nat.le_of_not_lt fun aX=>by
 have:Nat.blt a b=true:=Nat.ble_eq_true_of_le aX;rw[h] at this;cases this
theorem Yx(h:oY G ρ aS β dZ){B B':Nat}(hr:AJ G ρ B B'=true):dZ B=β B'∧(G≤B→dZ.o B=β.o B'):=by
 unfold AJ at hr;rcases aB hr with⟨h1,h2⟩|⟨h1,h2⟩
 ·have mf:B<G:=xh h1;exact⟨by rw[h.g B mf,xb h2],fun e=>by omega⟩
 ·rw[eL] at h2;have mf:G≤B:=Qx h1;split at h2
  ·rename_i x hx;rcases aB h2 with⟨_,h3⟩|⟨h3,h4⟩
   ·cases h3
   ·obtain⟨e1,e2⟩:=h.l B x mf hx (Fe h3);rw[xb h4] at e1 e2;exact⟨e1,fun _=>e2⟩
  ·cases h2
theorem bq6(h:oY G ρ aS β dZ){B:Nat}(hr:Sh G ρ B=true):dZ B=none∧dZ.o B=some (.slice none 0 0):=by
 unfold Sh at hr;rcases aB hr with⟨h1,h2⟩|⟨h1,h2⟩
 ·cases h2
 ·rw[eL] at h2;split at h2
  ·rename_i x hx;exact h.m B (Qx h1) (by rw[show B - G=Nat.sub B G from rfl,hx,xb h2])
  ·cases h2
theorem BN(h:oY G ρ aS β dZ){tc v:xM}(hs:AI aS tc v=true):∃c d,tc= .chan (some (c+1))∧dZ.d c=some d∧SD β v d:=by
 unfold AI at hs;split at hs
 ·rename_i c;rw[eL] at hs;split at hs
  ·rename_i s eJ;obtain rfl:=uS hs;obtain⟨d,h1,h2⟩:=h.d c s eJ;exact⟨c,d,rfl,h1,h2⟩
  ·cases hs
 ·cases hs
theorem Pf(h:oY G ρ aS β dZ){B B':Nat}(hr:AJ G ρ B B'=true){l:Loc}(hl:β B'=some l):dZ B=some l:=(Yx h hr).1.trans hl
theorem Wy(h:oY G ρ aS β dZ){tv v v':xM}(hi:GD G ρ aS tv v=true)(hv:ai β v v'):ai dZ tv v':=by
 unfold GD at hi;split at hi
 ·exact .j9 _
 ·rename_i c;rw[eL] at hi;split at hi
  ·rename_i s hs;obtain rfl:=uS hi;obtain⟨d,h1,h2⟩:=h.d c s hs;exact .sym c d v' h1 h2.1 (by rw[h.z];exact h2.2.1 v' hv)
  ·cases hi
 ·rename_i B c;split at hi
  ·rename_i B' cv;simp only [xf] at hi;obtain⟨⟨⟨h0,h1⟩,h2⟩,h3⟩:=hi;obtain⟨c2,d,e1,e2,e3⟩:=BN h h3;cases e1;obtain⟨cc,rfl⟩:=I1 h2;cases hv with
   |own _ _ rows a cap ho ha hd=>
    have ig:=e3.2.2 (.sl rows) (by show(β.d cc).bind _=_;rw[hd];rfl);rw[←ig] at e2;obtain⟨q1,q2⟩:=Yx h h1;exact .own B c rows a cap ((q2 (xh h0)).trans ho) (ha.imp id fun⟨l,x,y⟩=>⟨l,q1.trans x,y⟩) e2
  ·simp only [xf] at hi;obtain⟨⟨h1,h2⟩,h3⟩:=hi;obtain⟨c2,d,e1,e2,e3⟩:=BN h h3;cases e1;unfold YQ at h2;split at h2
   ·cases hv;have ig:=e3.2.2 (.sl []) rfl;rw[←ig] at e2;exact .own B c [] none 0 (bq6 h h1).2 (.inl ⟨rfl,rfl⟩) e2
   ·cases h2
 ·rename_i B;split at hi
  ·rename_i B';cases hv with
   |map _ l hl=>exact .map B l (Pf h hi hl)
  ·cases hi
 ·rename_i B o;split at hi
  ·rename_i B' o';rw[xf] at hi;obtain rfl:=xb hi.2;cases hv with
   |ptr _ _ l hl=>exact .ptr B o l (Pf h hi.1 hl)
  ·cases hi
 ·rename_i B o n c;split at hi
  ·rename_i B' o' n' c';simp only [xf] at hi;obtain⟨⟨⟨⟨⟨⟨h1,h2⟩,h3⟩,h4⟩,h5⟩,h6⟩,h7⟩:=hi;obtain rfl:=xb h2;obtain rfl:=xb h3;obtain rfl:=xb h4;cases hv with
   |slice _ _ _ _ c2 l hl hn hc he=>exact .slice B o n c c2 l (Pf h h1 hl) hn hc he
   |empty=>exact absurd h7 (by decide)
  ·cases hi
 ·rw[xf] at hi;obtain rfl:=uS hi.2;exact Of hi.1 hv
theorem IE(h:oY G ρ aS β dZ)(hA:∀v v',ai β v v'→ai β (rz A v) v'):∀{tv v v':List xM},Fw G ρ aS A tv v=true→aT β v v'→aT dZ tv v'
 |[],[],v',_,hv=>by rw[hv.mV];exact aT.nil _
 |[],_::_,v',hi,_=>by cases hi
 |_::_,[],v',hi,_=>by cases hi
 |x::tv,y::v,v',hi,hv=>by
  have hi':bs (GD G ρ aS x (rz A y)) (Fw G ρ aS A tv v) false=true:=hi;rcases aB hi' with⟨h1,h2⟩|⟨_,h2⟩
  ·obtain⟨y',l',rfl,h3,h4⟩:=hv.kS;exact(IE h hA h2 h4).cons (Wy h h1 (hA _ _ h3))
  ·cases h2
theorem EM(h:oY G ρ aS β dZ)(hA:∀v v',ai β v v'→ai β (rz A v) v'){tv v v':xM}(hi:Ap G ρ aS A tv v=true)(hv:ai β v v'):ai dZ tv v':=by
 unfold Ap at hi;split at hi
 ·split at hi
  ·cases hv with
   |agg _ p' hp h1=>exact ai.rR (IE h hA hi ⟨hp,h1⟩)
  ·cases hi
 ·split at hi
  ·simp only [xf] at hi;obtain rfl:=xb hi.1.1;cases hv with
   |func _ _ p' _ q' hp hq h1 h2=>
    have k1:=IE h hA hi.1.2 ⟨hp,h1⟩;have k2:=IE h hA hi.2 ⟨hq,h2⟩;exact .func _ _ p' _ q' k1.1 k2.1 k1.2 k2.2
  ·cases hi
 ·exact Wy h hi (hA _ _ hv)
theorem ID(h:oY G ρ aS β dZ)(hA:∀v v',ai β v v'→ai β (rz A v) v'):∀{tv v:List xM},Fv G ρ aS A tv v=true→tv.length=v.length∧∀(i:Nat) (x y:xM),tv[i]? =some x→v[i]? =some y→Ap G ρ aS A x y=true
 |[],[],_=>⟨rfl,fun i x y h=>by simp at h⟩
 |[],_::_,hi=>by cases hi
 |_::_,[],hi=>by cases hi
 |x::tv,y::v,hi=>by
  have hi':bs (Ap G ρ aS A x y) (Fv G ρ aS A tv v) false=true:=hi;rcases aB hi' with⟨h1,h2⟩|⟨_,h2⟩
  ·obtain⟨k1,k2⟩:=ID h hA h2;refine⟨by simp[k1],fun i a b ha hb=> ?_⟩;cases i with
   |zero=>simp at ha hb;subst ha;subst hb;exact h1
   |succ i=>simp at ha hb;exact k2 i a b ha hb
  ·cases h2
theorem bc6(h:oY G ρ aS β dZ)(hA:∀v v',ai β v v'→ai β (rz A v) v'){tb b:ap}(hi:tP G ρ aS A tb b=true){l:Loc}{o:Option Obj}(hb:hM β l b o):hM dZ l tb o:=by
 unfold tP at hi;split at hi
 ·rename_i cs es ex ro ty bu aD kr kg iX;simp only [xf] at hi;obtain⟨⟨⟨⟨h1,h2⟩,h3⟩,h4⟩,h5⟩:=hi;obtain rfl:=xb h1;obtain rfl:=tw h2;obtain rfl:=tw h3;obtain rfl:=xb h4;obtain⟨k1,k2⟩:=ID h hA h5;obtain⟨aE,e,fz,g1,g2,g3,g4,g5,g6,g7,g8⟩:=hb;refine⟨aE,e,fz,g1,g2,by rw[k1];exact g3,fun i v hv=> ?_,g5,fun hx=>by rw[k1];exact g6 hx,g7,g8⟩;have eY:i<bu.length:=by rw[←k1];exact(xe.1 hv).1
  obtain⟨v',e1,e2⟩:=g4 i _ (xc eY);exact⟨v',e1,EM h hA (k2 i _ _ hv (xc eY)) e2⟩
 ·rename_i tc es ex ro ty c aD kr kg iX;simp only [xf] at hi;obtain⟨⟨⟨⟨⟨⟨h1,h2⟩,h3⟩,h4⟩,h5⟩,h6⟩,h7⟩:=hi;obtain rfl:=xb h1;obtain rfl:=xb h4;obtain⟨aE,rows,g1,g2,g3,g4,g5,g6,g7⟩:=hb;obtain⟨c2,d,e1,e2,e3⟩:=BN h h7;subst e1;have ig:=e3.2.2 (.sl rows) g3;rw[←ig] at e2;exact⟨aE,rows,g1,g2,by show(dZ.d c2).bind _=_;rw[e2];rfl,g4,g5,g6,fun i row j d a b=>by rw[h.z];exact g7 i row j d a b⟩
 ·rename_i tc es ex ro ty c aD kr kg iX;simp only [xf] at hi;obtain⟨_,h7⟩:=hi;obtain⟨aD,ck,rows,g1,g2,g3⟩:=hb;obtain⟨c2,d,e1,e2,e3⟩:=BN h h7;subst e1;have ig:=e3.2.2 (.sl rows) g2;rw[←ig] at e2;exact⟨aD,ck,rows,g1,by show(dZ.d c2).bind _=_;rw[e2];rfl,by rw[h.z];exact g3⟩
 ·cases hi
theorem aV8{tb b:ap}(hi:tP G ρ aS A tb b=true):tb.still=b.still:=by
 unfold tP at hi;split at hi
 ·simp only [xf] at hi;exact tw hi.1.1.2
 ·simp only [xf] at hi;exact tw hi.1.1.1.1.2
 ·rfl
 ·cases hi
theorem bc7(h:oY G ρ aS β dZ)(hA:∀v v',ai β v v'→ai β (rz A v) v'){tb b:ap}(hi:tP G ρ aS A tb b=true){B B':Nat}(hf:dZ B=β B')(ho:dZ.o B=β.o B')(kD:iU β B' b):iU dZ B tb:=by
 unfold tP at hi;split at hi
 ·trivial
 ·rename_i tc es ex ro ty c aD kr kg iX;simp only [xf] at hi;obtain⟨⟨⟨⟨⟨⟨h1,h2⟩,h3⟩,h4⟩,h5⟩,h6⟩,h7⟩:=hi;obtain rfl:=xb h1;obtain⟨c2,d,e1,e2,e3⟩:=BN h h7;subst e1;obtain⟨rows,g1,g2⟩:=kD;have ig:=e3.2.2 (.sl rows) g1;rw[←ig] at e2;exact⟨rows,by show(dZ.d c2).bind _=_;rw[e2];rfl,g2.imp (fun⟨x,y⟩=>⟨x,ho.trans y⟩) fun⟨l,cap,x,y,z⟩=>⟨l,cap,hf.trans x,ho.trans y,z⟩⟩
 ·trivial
 ·cases hi
theorem bc5(h:oY G ρ aS β dZ)(hA:∀v v',ai β v v'→ai β (rz A v) v'){tb:ap}(hi:GC aS tb=true){B:Nat}(ho:dZ.o B=some (.slice none 0 0)):iU dZ B tb:=by
 unfold GC at hi;split at hi
 ·rw[xf] at hi;obtain⟨c2,d,e1,e2,e3⟩:=BN h hi.2;subst e1;have ig:=e3.2.2 (.sl []) rfl;rw[←ig] at e2;exact⟨[],by show(dZ.d c2).bind _=_;rw[e2];rfl,.inl ⟨rfl,ho⟩⟩
 ·cases hi
end
section
variable{G:Nat}{ρ:List Nat}{aS:List xM}
theorem Oc{A:AW}:∀{hp:List ap} {r:List Nat},Qe G ρ aS A hp r=true→hp.length=r.length∧∀(j:Nat) (tb:ap) (x:Nat),hp[j]? =some tb→r[j]? =some x→(x=cq∧GC aS tb=true)∨(x≠cq∧G≤x∧∃ao,A.get x=some ao∧tP G ρ aS A tb ao=true)
 |[],[],_=>⟨rfl,fun j tb x h=>by simp at h⟩
 |[],_::_,h=>by cases h
 |_::_,[],h=>by cases h
 |t::hp,y::r,h=>by
  have h':bs (bs (Nat.beq y cq) (GC aS t) (Nat.ble G y&& (match A.get y with|some ao=>tP G ρ aS A t ao|none=>false))) (Qe G ρ aS A hp r) false=true:=h;rcases aB h' with⟨h1,h2⟩|⟨_,h2⟩
  ·obtain⟨k1,k2⟩:=Oc h2;refine⟨by simp[k1],fun j tb x ha hb=> ?_⟩;cases j with
   |zero=>
    simp at ha hb;subst ha;subst hb;rcases aB h1 with⟨e1,e2⟩|⟨e1,e2⟩
    ·exact .inl ⟨xb e1,e2⟩
    ·rw[xf] at e2;refine .inr ⟨Fe e1,xh e2.1,?_⟩;have h3:=e2.2;split at h3
     ·rename_i ao qP;exact⟨ao,qP,h3⟩
     ·cases h3
   |succ j=>simp at ha hb;exact k2 j tb x ha hb
  ·cases h2
theorem VZ{A:AW}:∀{L:List (Option ap)} {i:Nat},RV A L i=true→∀(g:Nat) (x:Option ap),L[g]? =some x→A.get (i+g)=x
 |[],i,_,g,x,h=>by simp at h
 |y::L,i,hh,g,x,h=>by
  have h':bs (AL (A.get i) y) (RV A L (Nat.succ i)) false=true:=hh;rcases aB h' with⟨h1,h2⟩|⟨_,h2⟩
  ·cases g with
   |zero=>simp at h;subst h;exact XN h1
   |succ g=>
    simp at h;have:=VZ h2 g x h;rw[show i+(g+1)=Nat.succ i+g by omega];exact this
  ·cases h2
theorem Ob:∀{l:List Nat},nodupB l=true→∀(i j x:Nat),l[i]? =some x→l[j]? =some x→x≠cq→i=j
 |[],_,i,j,x,h,_,_=>by simp at h
 |y::l,hh,i,j,x,h,k,hx=>by
  have h':bs (bs (Nat.beq y cq) true (eo (fun z=>bs (Nat.beq y z) false true) l)) (nodupB l) false=true:=hh;rcases aB h' with⟨h1,h2⟩|⟨_,h2⟩
  ·have bq:∀m,x=y→l[m]? =some x→False:=fun m uo hm=>by
    rcases aB h1 with⟨e1,_⟩|⟨_,e2⟩
    ·exact hx (uo.trans (xb e1))
    ·have:=mq _ l e2 x (xu hm);rw[uo] at this;have e:Nat.beq y y=true:=by simp
     rw[e] at this;cases this
   cases i with
   |zero=>
    cases j with
    |zero=>rfl
    |succ j=>simp at h k;exact(bq j h.symm k).elim
   |succ i=>
    cases j with
    |zero=>simp at h k;exact(bq i k.symm h).elim
    |succ j=>simp at h k;rw[Ob h2 i j x h k hx]
  ·cases h2
theorem aV3{β cT:ah}{l:Loc}{cs:List xM}{es:Nat}{ex ro:Bool}{ty:xN}{o:Option Obj}(hs:(cs.all yM)=true)(hb:hM β l ⟨.cells cs,es,ex,ro,ty⟩ o):hM cT l ⟨.cells cs,es,ex,ro,ty⟩ o:=by
 obtain⟨aE,e,fz,g1,g2,g3,g4,g5,g6,g7,g8⟩:=hb;refine⟨aE,e,fz,g1,g2,g3,fun i v hv=> ?_,g5,g6,g7,g8⟩;obtain⟨v',e1,e2⟩:=g4 i v hv;have:=List.all_eq_true.1 hs v (xu hv);refine⟨v',e1,Of ?_ e2⟩;unfold yM at this;split at this<;>first|rfl|cases this
def pI(G:Nat)(ρ:List Nat)(β:ah)(δ:Nat→Option D):ah where
 f:=fun B=>if B<G then β B else(match ρ[B - G]? with|some x=>if x=cq then none else β x|none=>none)
 z:=β.z
 d:=δ
 x:=β.x
 o:=fun B=>if B<G then none else(match ρ[B - G]? with|some x=>if x=cq then some (.slice none 0 0) else β.o x|none=>none)
theorem ye(G:Nat)(ρ:List Nat)(β:ah)(δ:Nat→Option D)(B:Nat):(pI G ρ β δ) B=if B<G then β B else(match ρ[B - G]? with|some x=>if x=cq then none else β x|none=>none):=rfl
theorem Qd(G:Nat)(ρ:List Nat)(β:ah)(δ:Nat→Option D)(B:Nat):(pI G ρ β δ).o B=if B<G then none else(match ρ[B - G]? with|some x=>if x=cq then some (.slice none 0 0) else β.o x|none=>none):=rfl
theorem XX{β:ah}{δ:Nat→Option D}(hd:∀(c:Nat) (s:xM),aS[c]? =some s→∃d,δ c=some d∧SD β s d):oY G ρ aS β (pI G ρ β δ):=
 ⟨fun B h=>by rw[ye,if_pos h],fun B x h hx hn=>⟨by rw[ye,if_neg (by omega),hx];exact if_neg hn,by rw[Qd,if_neg (by omega),hx];exact if_neg hn⟩,
  fun B h hx=>⟨by rw[ye,if_neg (by omega),hx];exact if_pos rfl,by rw[Qd,if_neg (by omega),hx];exact if_pos rfl⟩,fun B h hx=>by rw[ye,if_neg (by omega),hx],
  fun B v h=>by
   rw[Qd] at h;by_cases hB:B<G
   ·rw[if_pos hB] at h;cases h
   ·rw[if_neg hB] at h;cases hx:ρ[B - G]? with
    |none=>rw[hx] at h;cases h
    |some x=>have:=(xe.1 hx).1;omega,rfl,rfl,hd⟩
end
def G2(L:List (Option ap)):Prop:=∀g,g<L.length→L[g]? =some none∨∃cs es,L[g]? =some (some ⟨.cells cs,es,false,true,jY⟩)∧(cs.all yM)=true
theorem zO(T:aI)(k:Nat)(L:List (Option ap))(tape:List Node):(T.aw k L tape).next=L.length+T.hp.length:=by
 show bE (aj L (z9 T.hp))=_;unfold z9;rw[dg,iN,kV,xa,xm]
theorem CG{T:aI}{k:Nat}{L:List (Option ap)}{tape:List Node}{B:Nat}{ao:ap}(h:(T.aw k L tape).get B=some ao):(B<L.length∧L[B]? =some (some ao))∨(L.length≤B∧T.hp[B - L.length]? =some ao):=by
 have h1:=xU k _ B ao h;unfold z9 at h1;rw[iN,kV] at h1;by_cases hB:B<L.length
 ·rw[xw hB] at h1;exact .inl ⟨hB,h1⟩
 ·rw[xq (by omega),xx] at h1;obtain⟨x,hx,e⟩:=xp.1 h1;cases e;exact .inr ⟨by omega,hx⟩
theorem bk4{w0 w:World}{L:List (Option ap)}{Q:(Nat→Option D)→Node→Prop}{LL:World→Prop}(hL:G2 L){β:ah}{A:AW}{T:aI}{ρ:List Nat}{aS:List xM}{fr:Fr}(hi:Ao L T ρ aS fr A=true)
 (inv:Inv w0 ⟨L.length,Q,LL⟩ β A w) {δ:Nat→Option D} (hd:∀(c:Nat) (s:xM),aS[c]? =some s→∃d,δ c=some d∧SD β s d) {tape:List Node} (ht:∀nd∈tape,Q δ nd) (k:Nat):
 Inv w0 ⟨L.length,Q,LL⟩ (pI L.length ρ β δ) (T.aw k L tape) w∧∀(K n:Nat) (tmps:Array xM),bX β n (fr.get J) tmps→bX (pI L.length ρ β δ) n ((pb K T.tm).get J) tmps:=by
 unfold Ao at hi;rw[dg] at hi;simp only [xf] at hi;obtain⟨⟨⟨sR,eY⟩,nN⟩,wz⟩:=hi;have hI:=XX (G:=L.length) (ρ:=ρ) hd;obtain⟨aF,qP⟩:=Oc eY;have GK:∀g,g<L.length→A.get g=(L[g]?).join:=fun g hg=>by
  have:=VZ nN g _ (xc hg);rw[Nat.zero_add] at this;rw[this,xc hg];rfl
 have oe:∀B l,L.length≤B→(pI L.length ρ β δ) B=some l→∃x,ρ[B - L.length]? =some x∧x≠cq∧β x=some l:=fun B l hB h=>by
  cases hx:ρ[B - L.length]? with
  |none=>rw[hI.n B hB hx] at h;cases h
  |some x=>
   by_cases hn:x=cq
   ·rw[hn] at hx;rw[(hI.m B hB hx).1] at h;cases h
   ·rw[(hI.l B x hB hx hn).1] at h;exact⟨x,rfl,hn,h⟩
 have aq:∀B x,L.length≤B→ρ[B - L.length]? =some x→x≠cq→∀tb,T.hp[B - L.length]? =some tb→L.length≤x∧∃ao,A.get x=some ao∧tP L.length ρ aS A tb ao=true:=fun B x hB hx hn tb UG=>by
  rcases qP _ tb x UG hx with⟨e,_⟩|⟨_,e1,e2⟩
  ·exact absurd e hn
  ·exact⟨e1,e2⟩
 have dX:∀B x,L.length≤B→ρ[B - L.length]? =some x→x≠cq→L.length≤x:=fun B x hB hx hn=>by
  have hj:B - L.length<T.hp.length:=by rw[aF];exact(xe.1 hx).1
  exact(aq B x hB hx hn _ (xc hj)).1
 refine⟨⟨inv.below,fun B l h=> ?_,fun B h=> ?_,fun B l h=> ?_,fun B B' l l' h h' hb h1 h2=> ?_,fun B ao l h h'=> ?_,fun g hg=> ?_,inv.bH,fun B l ao hG h hk hs=> ?_,ht,fun B ao h=> ?_,fun B v h=> ?_,inv.lay,inv.xg,inv.jv,inv.zo⟩,fun K n tmps hf=>⟨hf.1,fun t=> ?_⟩⟩
 ·rw[zO];by_cases hB:B<L.length
  ·omega
  ·obtain⟨x,hx,_⟩:=oe B l (by omega) h;have:=(xe.1 hx).1;omega
 ·rw[zO] at h;cases hq:(T.aw k L tape).get B with
  |none=>rfl
  |some ao=>
   rcases CG hq with⟨h1,_⟩|⟨_,h2⟩
   ·omega
   ·have:=(xe.1 h2).1;omega
 ·by_cases hB:B<L.length
  ·rw[hI.g B hB] at h;exact⟨(inv.loc B l h).1,.inl hB⟩
  ·obtain⟨x,hx,hn,h3⟩:=oe B l (by omega) h;have:=dX B x (by omega) hx hn;exact⟨(inv.loc x l h3).1,(inv.loc x l h3).2.elim (fun h=>absurd h (by show ¬x<L.length;omega)) .inr⟩
 ·obtain⟨b1,cz⟩:=Option.isSome_iff_exists.1 h1;obtain⟨b2,cg⟩:=Option.isSome_iff_exists.1 h2;rcases CG cz with⟨q1,q2⟩|⟨q1,q2⟩<;>rcases CG cg with⟨p1,p2⟩|⟨p1,p2⟩
  ·rw[hI.g B q1] at h;rw[hI.g B' p1] at h';exact inv.inj B B' l l' h h' hb (by rw[GK B q1,q2];rfl) (by rw[GK B' p1,p2];rfl)
  ·rw[hI.g B q1] at h;obtain⟨x,hx,hn,h3⟩:=oe B' l' p1 h';obtain⟨ot,ao,kO,_⟩:=aq B' x p1 hx hn _ p2;have:=inv.inj B x l l' h h3 hb (by rw[GK B q1,q2];rfl) (by rw[kO];rfl);omega
  ·rw[hI.g B' p1] at h';obtain⟨x,hx,hn,h3⟩:=oe B l q1 h;obtain⟨ot,ao,kO,_⟩:=aq B x q1 hx hn _ q2;have:=inv.inj x B' l l' h3 h' hb (by rw[kO];rfl) (by rw[GK B' p1,p2];rfl);omega
  ·obtain⟨x,hx,hn,h3⟩:=oe B l q1 h;obtain⟨y,hy,iw,h4⟩:=oe B' l' p1 h';obtain⟨_,ao,kO,_⟩:=aq B x q1 hx hn _ q2;obtain⟨_,A5,Br,_⟩:=aq B' y p1 hy iw _ p2;have e:=inv.inj x y l l' h3 h4 hb (by rw[kO];rfl) (by rw[Br];rfl);subst e;have:=Ob wz _ _ _ hx hy hn;omega
 ·rcases CG h with⟨q1,q2⟩|⟨q1,q2⟩
  ·rw[hI.g B q1] at h';rcases hL B q1 with e1|⟨cs,es,e1,e2⟩<;>rw[q2] at e1
   ·cases e1
   cases e1;exact aV3 e2 (inv.cont B _ l (by rw[GK B q1,q2];rfl) h')
  ·obtain⟨x,hx,hn,h3⟩:=oe B l q1 h';obtain⟨_,A5,kO,Br⟩:=aq B x q1 hx hn _ q2;exact bc6 hI inv.zV Br (inv.cont x A5 l kO h3)
 ·obtain⟨l,h1,h2,h3⟩:=inv.jm g hg;exact⟨l,by rw[hI.g g hg];exact h1,h2,h3⟩
 ·rcases CG hk with⟨q1,q2⟩|⟨q1,q2⟩
  ·have nS:L.length≤B:=hG;omega
  ·obtain⟨x,hx,hn,h3⟩:=oe B l q1 h;obtain⟨nL,A5,kO,Br⟩:=aq B x q1 hx hn _ q2;exact inv.sep x l A5 nL h3 kO (aV8 Br▸hs)
 ·rcases CG h with⟨q1,q2⟩|⟨q1,q2⟩
  ·rcases hL B q1 with e1|⟨cs,es,e1,e2⟩<;>rw[q2] at e1
   ·cases e1
   cases e1;trivial
  ·have hj:B - L.length<ρ.length:=by rw[←aF];exact(xe.1 q2).1
   have hx:=xc hj;rcases qP _ _ _ q2 hx with⟨e,ux⟩|⟨hn,dF9,A5,kO,Br⟩
   ·rw[e] at hx;exact bc5 hI inv.zV ux (hI.m B q1 hx).2
   ·obtain⟨f1,f2⟩:=hI.l B _ q1 hx hn;exact bc7 hI inv.zV Br f1 f2 (inv.own _ A5 kO)
 ·rw[zO,aF];exact(hI.og B v h).2
 ·rcases PF K T.tm t with e|⟨tv,h1,e⟩
  ·rw[e];exact .j9 _
  ·rw[e];exact EM hI inv.zV (mq _ _ sR _ h1) (hf.2 t)
structure aG where
 args:List xM
 hp:List ap
 nob:Nat
 rv:xM
 hp':List ap
def mA(hp:List ap):aI:=⟨[],hp⟩
def G0(L:List (Option ap))(LL:World→Prop):GP:=⟨L.length,fun _ _=>True,LL⟩
def dn6(P:Program)(w0:World)(G:GP)(k:Nat)(L:List (Option ap))(β:ah)(b:Frame)(cs:List Frame)(m0:Machine)(sg:aG)(out:List D):Prop:=
 ∃(a':Act) (w':World) (DX:List Item) (v:xM) (ak:ah) (fn:Func),Steps P m0 (lone {b.atR a' DX with mode:= .returning} cs w')∧a'.defers=[]∧P.funcs[b.fn]? =some fn∧(results fn a'.tmps).run P w'= .ok v w'∧
  Inv w0 G ak ((mA sg.hp').aw k L []) w'∧ai ak sg.rv v∧(∀B,B<L.length+sg.nob→ak B=β B)∧(∀b c,β.z b=some c→ak.z b=some c)∧(∀(c:Nat) (d:D),out[c]? =some d→ak.d c=some d)∧ak.x=β.x
def DO(P:Program)(E:av)(f:FuncId)(n K k:Nat)(L:List (Option ap))(sg:aG)(td:List Item)(T:aI)(ds out:List D):Prop:=
 ∀(w0 w:World) (β:ah) (b:Frame) (cs:List Frame) (a:Act),b.fn=f→b.roundOf=none→a.defers=[]→Inv w0 E.G β (T.aw k L []) w→bX β n ((pb K T.tm).get J) a.tmps→β.d=(fun c=>ds[c]?)→
  dn6 P w0 E.G k L β b cs (lone (b.atR a td) cs w) sg out
structure ah.ul (β ak:ah):Prop where
 f:∀B l,β B=some l→ak B=some l
 z:∀b c,β.z b=some c→ak.z b=some c
 o:∀B v,β.o B=some v→ak.o B=some v
 d:∀(c:Nat) (d:D),β.d c=some d→ak.d c=some d
theorem tg{δ l7:Nat→Option D}(h:∀(c:Nat) (d:D),δ c=some d→l7 c=some d){v:xM}{d:D}(hv:bQ δ v=some d):bQ l7 v=some d:=by
 unfold bQ at hv;split at hv
 ·obtain⟨x,hx,h2⟩:=xr.1 hv;show(l7 _).bind _=_;rw[h _ x hx];exact h2
 all_goals first|exact hv|cases hv
theorem ai.iE{β ak:ah}(hb:β.ul ak){v v':xM}(h:ai β v v'):ai ak v v':=by
 induction h with
 |j9 v=>exact .j9 v
 |bool b=>exact .bool b
 |int k n=>exact .int k n
 |string s=>exact .string s
 |oX=>exact .oX
 |sym c d v h hc hr=>exact .sym c d v (hb.d _ _ h) hc (hr.mono hb.z)
 |own B c rows a cap h ha hd=>exact .own B c rows a cap (hb.o _ _ h) (ha.imp id fun⟨l,x,y⟩=>⟨l,hb.f _ _ x,y⟩) (hb.d _ _ hd)
 |pG B es off m l iv k h hi=>exact .pG B es off m l iv k (hb.f _ _ h) (tg hb.d hi)
 |raw B n cap l h hn hs=>exact .raw B n cap l (hb.f _ _ h) hn (hb.o _ _ hs)
 |part B off n m l iv k h hi hm=>exact .part B off n m l iv k (hb.f _ _ h) (tg hb.d hi) hm
 |ptr B o l h=>exact .ptr B o l (hb.f _ _ h)
 |tz=>exact .tz
 |slice B o n c c' l h hn hc he=>exact .slice B o n c c' l (hb.f _ _ h) hn hc he
 |empty o a' c'=>exact .empty o a' c'
 |AN=>exact .AN
 |map B l h=>exact .map B l (hb.f _ _ h)
 |nilFunc=>exact .nilFunc
 |nilIface=>exact .nilIface
 |func f p p' q q' hp hq _ _ i1 i2=>exact .func f p p' q q' hp hq i1 i2
 |yield B l h=>exact .yield B l (hb.f _ _ h)
 |agg p p' hp _ i1=>exact .agg p p' hp i1
 |tuple p p' hp _ i1=>exact .tuple p p' hp i1
theorem bX.iE{β ak:ah}(hb:β.ul ak){n:Nat}{g:Gt}{t:Array xM}(h:bX β n g t):bX ak n g t:=⟨h.1,fun i=>(h.2 i).iE hb⟩
theorem aT.iE{β ak:ah}(hb:β.ul ak){l l':List xM}(h:aT β l l'):aT ak l l':=⟨h.1,fun i v v' a b=>(h.2 i v v' a b).iE hb⟩
theorem hM.iE{β ak:ah}(hb:β.ul ak){l:Loc}{ao:ap}{o:Option Obj}(h:hM β l ao o):hM ak l ao o:=by
 unfold hM at*;cases hk:ao.obj with
 |cells cs=>
  simp only [hk] at h⊢;obtain⟨aE,e,fz,h1,h2,h3,h4,h5,h6,h7⟩:=h;exact⟨aE,e,fz,h1,h2,h3,fun i v hv=>(h4 i v hv).imp fun v' ⟨a,b⟩=>⟨a,b.iE hb⟩,h5,h6,h7⟩
 |map es ck=>
  simp only [hk] at h⊢;obtain⟨aD,h1,h2,h3⟩:=h;exact⟨aD,h1,h2,fun i e e' a b=>⟨(h3 i e e' a b).1,(h3 i e e' a b).2.1.iE hb,(h3 i e e' a b).2.2.iE hb⟩⟩
 |iter m since seen st=>
  simp only [hk] at h⊢;obtain⟨h0,m',h1,h2⟩:=h;exact⟨h0,m',h1,h2.imp id fun⟨B,lb,a,b,c⟩=>⟨B,lb,a,hb.f _ _ b,c⟩⟩
 |loop bz fr n ps a b=>
  simp only [hk] at h⊢;obtain⟨r,h1,h2,h3,h4,h5,h6,h7,h8⟩:=h;exact⟨r,h1,h2,h3,h4,h5,h6,h7,fun t=>(h8 t).iE hb⟩
 |wG=>
  simp only [hk] at h⊢;exact h
 |own c=>
  simp only [hk] at h⊢;obtain⟨aE,rows,h1,h2,h3,h4,h5,h6,h7⟩:=h;exact⟨aE,rows,h1,h2,tg hb.d h3,h4,h5,h6,fun i row j d a b=>(h7 i row j d a b).imp fun v ⟨x,y⟩=>⟨x,y.mono hb.z⟩⟩
 |maps c=>
  simp only [hk] at h⊢;obtain⟨aD,ck,rows,h1,h2,h3⟩:=h;exact⟨aD,ck,rows,h1,tg hb.d h2,h3.mono hb.z⟩
theorem iU.iE{β ak:ah}(hb:β.ul ak){B:Nat}{ao:ap}(h:iU β B ao):iU ak B ao:=by
 unfold iU at*;split at h
 ·obtain⟨rows,h1,h2⟩:=h;refine⟨rows,tg hb.d h1,h2.imp (fun⟨a,b⟩=>⟨a,hb.o _ _ b⟩) fun⟨l,cap,a,b,c,d,e⟩=>⟨l,cap,hb.f _ _ a,hb.o _ _ b,c,d,e⟩⟩
 ·trivial
theorem Inv.reD{w0 w:World}{G:GP}{β:ah}{A:AW}(h:Inv w0 G β A w){δ:Nat→Option D}(hd:∀(c:Nat) (d:D),β.d c=some d→δ c=some d){Q:(Nat→Option D)→Node→Prop}{r:List Node}(hr:∀nd∈r,Q δ nd):Inv w0 ⟨G.n,Q,G.L⟩ {β with d:=δ} (A.pop r) w∧β.ul {β with d:=δ}:=by
 have hb:β.ul {β with d:=δ}:=⟨fun _ _ h=>h,fun _ _ h=>h,fun _ _ h=>h,hd⟩;exact⟨⟨h.below,h.gU,h.dh,h.loc,h.inj,fun B ao l a b=>(h.cont B ao l a b).iE hb,h.jm,h.bH,h.sep,hr,fun B ao a=>(h.own B ao a).iE hb,h.jj,h.lay,h.xg,h.jv,h.zo⟩,hb⟩
def MR(n:Nat)(β:ah):XZ:=⟨fun b=>∃B l,n≤B∧β B=some l∧l.b=b,β.z⟩
theorem Inv.reX{w0 w:World}{G:GP}{β:ah}{A:AW}(h:Inv w0 G β A w)(hL:G.L w):Inv w G {β with x:=MR G.n β} A w∧β.ul {β with x:=MR G.n β}:=by
 have hb:β.ul {β with x:=MR G.n β}:=⟨fun _ _ h=>h,fun _ _ h=>h,fun _ _ h=>h,fun _ _ h=>h⟩;refine⟨⟨mu.refl _ _,h.gU,h.dh,fun B l e=>⟨(h.loc B l e).1,?_⟩,h.inj,fun B ao l a b=>(h.cont B ao l a b).iE hb,h.jm,h.bH,h.sep,h.fw,fun B ao a=>(h.own B ao a).iE hb,h.jj,hL,fun b ⟨B,l,e1,e2,e3⟩=> ?_,xH h.jv h.below.size,fun b c e=> .inl e⟩,hb⟩
 ·by_cases hB:B<G.n
  ·exact .inl hB
  ·exact .inr (.inr ⟨B,l,Nat.le_of_not_lt hB,e,rfl⟩)
 ·rcases(h.loc B l e2).2 with h1|h1|h1
  ·exact absurd h1 (Nat.not_lt_of_le e1)
  ·rw[←e3];exact xH h.jv h1
  ·rw[←e3];exact h.xg _ h1
def Kf(nob g:Nat)(ρ:List Nat):Bool:=Nat.rec (motive:=fun _=>Bool) true (fun i ih=>bs (match dj ρ i with|some x=>bs (Nat.beq x cq) false (Nat.beq x (Nat.add g i))|none=>false) ih false) nob
theorem Ol{g:Nat}{ρ:List Nat}:∀{nob:Nat},Kf nob g ρ=true→∀i,i<nob→ρ[i]? =some (g+i)∧g+i≠cq
 |0,_,i,h=>by omega
 |n+1,h,i,hi=>by
  have h':bs (match dj ρ n with|some x=>bs (Nat.beq x cq) false (Nat.beq x (Nat.add g n))|none=>false) (Kf n g ρ) false=true:=h;rcases aB h' with⟨h1,h2⟩|⟨_,h2⟩
  ·rcases Nat.lt_succ_iff_lt_or_eq.1 hi with h3|rfl
   ·exact Ol h2 i h3
   ·rw[eL] at h1;split at h1
    ·rename_i x hx;rcases aB h1 with⟨_,h1⟩|⟨h3,h1⟩
     ·cases h1
     ·have:=xb h1;subst this;exact⟨hx,Fe h3⟩
    ·cases h1
  ·cases h2
theorem bk3{δ:Nat→Option D}{v:xM}{d:D}(h:bQ δ v=some d):vO v=true:=by
 unfold bQ at h;split at h<;>first|rfl|cases h
theorem bu1{G n:Nat}{v u:xM}{A A':AW}(h:nD G n v A=some (u,A'))(hd:vO v=true):u=v:=by
 cases n with
 |zero=>
  have h':bs (vO v) (some (v,A)) none=some (u,A'):=h;rw[hd] at h';cases h';rfl
 |succ n=>
  have h':bs (vO v) (some (v,A)) (MG G (nD G n) v A)=some (u,A'):=h;rw[hd] at h';cases h';rfl
theorem X6{G n:Nat}:∀{l us:List xM} {A A':AW},nE (nD G n) l A=some (us,A')→∀(c:Nat) (s u:xM),l[c]? =some s→us[c]? =some u→vO s=true→u=s
 |[],us,A,A',h,c,s,u,hs,_,_=>by simp at hs
 |v::l,us,A,A',h,c,s,u,hs,hu,hd=>by
  have h':(match nD G n v A with|some (u,A1)=>(match nE (nD G n) l A1 with|some (us,A2)=>some (u::us,A2)|none=>none)|none=>none)=some (us,A'):=h;split at h'
  ·rename_i u1 A1 h1;split at h'
   ·rename_i DW A2 h2;cases h';cases c with
    |zero=>simp at hs hu;subst hs;subst hu;exact bu1 h1 hd
    |succ c=>simp at hs hu;exact X6 h2 c s u hs hu hd
   ·cases h'
  ·cases h'
theorem PC{w0 w:World}{ih:xM→AW→Option (xM×AW)}{G:GP}(sP:∀v A u A' β,ih v A=some (u,A')→Inv w0 G β A w→Vo w0 w G β A v u A'):∀(l:List xM) (A:AW) (us:List xM) (A':AW) (β:ah),nE ih l A=some (us,A')→Inv w0 G β A w→
 ∃ak,Inv w0 G ak A' w∧β.grow ak A.next∧A'.next=A.next∧us.length=l.length∧∀dQ,ak.grow dQ A.next→∀(i:Nat) (v u v':xM),l[i]? =some v→us[i]? =some u→ai dQ v v'→ai dQ u v'
 |[],A,us,A',β,h,inv=>by
  cases h;exact⟨β,inv,ah.ca _ _,rfl,rfl,fun _ _ i v u v' h=>by simp at h⟩
 |v::l,A,us,A',β,h,inv=>by
  have h':(match ih v A with|some (u,A1)=>(match nE ih l A1 with|some (us,A2)=>some (u::us,A2)|none=>none)|none=>none)=some (us,A'):=h;split at h'
  ·rename_i u A1 h1;split at h'
   ·rename_i DW A2 h2;cases h';obtain⟨aO,i1,g1,n1,f1⟩:=sP v A u A1 β h1 inv;obtain⟨cT,i2,g2,n2,e2,f2⟩:=PC sP l A1 DW A' aO h2 i1;rw[n1] at g2 f2;refine⟨cT,i2,ah.iB g1 g2 (xk _),n2.trans n1,by simp[e2],fun dQ hg i a b v' ha hb hv=> ?_⟩;cases i with
    |zero=>simp at ha hb;subst ha;subst hb;exact f1 dQ (ah.iB g2 hg (xk _)) v' hv
    |succ i=>simp at ha hb;exact f2 dQ hg i a b v' ha hb hv
   ·cases h'
  ·cases h'
def FZ:Nat:=8
def TN(L:List (Option ap))(T:aI)(nob:Nat)(ρ:List Nat)(aS us:List xM):KU (List Item):=fun td fr A=>
 match nE (nD (bE L) FZ) aS A with
 |some (sD,A')=>bs (lm us sD&&Ao L T ρ aS fr A'&&Kf nob (bE L) ρ) (some [td]) none
 |none=>none
def RO(G:Nat)(ρ:List Nat)(aS:List xM)(A:AW)(tv v:xM):Bool:=
 match tv with
 | .tuple ⟨l⟩=>(match v with| .tuple ⟨l'⟩=>Fv G ρ aS A l l'|_=>false)
 |tv=>Ap G ρ aS A tv v
def TI(E:av)(rs:List ResultVar)(L:List (Option ap))(sg:aG)(ρ:List Nat)(aS us:List xM):Fr→AW→Option (List (List Item)):=fun fr A=>
 match G7 E fr A rs with
 |some v=>(match nE (nD (bE L) FZ) aS A with
  |some (sD,A')=>bs (lm us sD&&Ao L (mA sg.hp') ρ aS fr A'&&Kf sg.nob (bE L) ρ&&RO (bE L) ρ aS A' sg.rv v) (some [[]]) none
  |none=>none)
 |none=>none
def aa1:Fr→AW→Option (List (List Item)):=fun _ _=>none
def aa2:KU (List Item):=fun _ _ _=>none
section
variable{P:Program}{E:av}{sq:List (Nat×List xO)}(ok:E.Ok P)(aY:E.Seq P sq){L:List (Option ap)}{Q:(Nat→Option D)→Node→Prop}{LL:World→Prop}(hG:E.G=⟨L.length,Q,LL⟩)(hL:G2 L)
include ok hG hL in
theorem PM{w0 w:World}{β:ah}{A A':AW}{aS us:List xM}{ds1:List D}(hz:nE (nD (bE L) FZ) aS A=some (us,A'))(inv:Inv w0 E.G β A w)(mO:aW (bQ β.d) us=some ds1){T:aI}{ρ:List Nat}{fr:Fr}(hi:Ao L T ρ aS fr A'=true)(k:Nat):
 ∃aO,Inv w0 E.G (pI L.length ρ aO (fun c=>ds1[c]?)) (T.aw k L []) w∧β.grow aO A.next∧Inv w0 E.G aO A' w∧oY L.length ρ aS aO (pI L.length ρ aO (fun c=>ds1[c]?))∧A'.next=A.next∧
  ∀(K n:Nat) (tmps:Array xM),bX aO n (fr.get J) tmps→bX (pI L.length ρ aO (fun c=>ds1[c]?)) n ((pb K T.tm).get J) tmps:=by
 have hn:E.G.n=bE L:=by rw[hG,dg]
 rw[←hn] at hz;obtain⟨aO,i1,g1,n1,e1,f1⟩:=PC (w0:=w0) (w:=w) (G:=E.G) (fun v A u A' β h i=>yf ok FZ v A u A' β h i) aS A us A' β hz inv;have hsd:∀(c:Nat) (s:xM),aS[c]? =some s→∃d,(fun c=>ds1[c]?) c=some d∧SD aO s d:=fun c s hs=>by
  have hc:c<aS.length:=(xe.1 hs).1;have uC:c<us.length:=by omega
  have bY:c<ds1.length:=by rw[kT mO];exact uC
  have hu:=xc uC;have hd:=jZ mO (xc bY) hu;rw[←g1.d] at hd;have Ee:=bB1 (β:=aO) hd;refine⟨ds1[c],xc bY,Ee.1,fun v' hv=> ?_,fun d' nQ=> ?_⟩
  ·exact(E9 hd (f1 aO (ah.ca _ _) c s _ v' hs hu hv)).1
  ·have:=X6 hz c s _ hs hu (bk3 nQ);rw[←this] at nQ;rw[hd] at nQ;exact(xC nQ).symm
 have hI:=XX (G:=L.length) (ρ:=ρ) hsd;have Uv:=i1;rw[hG] at Uv⊢;obtain⟨j1,j2⟩:=bk4 hL hi Uv hsd (tape:=[]) (fun nd h=>by cases h) k;exact⟨aO,j1,g1,Uv,hI,n1,fun K n tmps hf=>j2 K n tmps hf⟩
theorem Wv{L:List (Option ap)}{nob:Nat}{ρ:List Nat}{β0 ak aO:ah}{δ:Nat→Option D}{n1 n2:Nat}(hk:∀i,i<nob→ρ[i]? =some (L.length+i)∧L.length+i≠cq){B:Nat}(hB:B<L.length+nob)(hn:L.length+nob≤n1)(h4:β0.grow ak n1)(h5:n1≤n2)(g1:ak.grow aO n2):(pI L.length ρ aO δ) B=β0 B:=by
 rw[ye];by_cases h:B<L.length
 ·rw[if_pos h,g1.f _ (by omega),h4.f _ (by omega)]
 ·rw[if_neg h];obtain⟨e1,e2⟩:=hk (B - L.length) (by omega);rw[e1,show L.length+(B - L.length)=B by omega];rw[show L.length+(B - L.length)=B by omega] at e2;show(if B=cq then none else aO B)=_;rw[if_neg e2,g1.f _ (by omega),h4.f _ (by omega)]
theorem Y8{T:aI}{k:Nat}{L:List (Option ap)}{r:List Node}:(T.aw k L []).pop r=T.aw k L r:=rfl
include ok aY hG hL in
theorem bb8{call:cL→List xM→AW→aZ xM}(hc:fN P E call){bL:List Oper→Fr→AW→aZ Fr}{n:Nat}(jW:tE P E n bL){f:FuncId}{K k aP m2:Nat}{sg:aG}{td DX:List Item}{T T':aI}{T1:List Nat}{Sb sD:List xM}{tape:List Node}{bh:List (List Item)}
 (aM:tT E sq call n bL aa1 (TN L T' sg.nob T1 Sb sD) aP m2 td (pb K T.tm) (T.aw k L tape)=some bh) (cm9:∀o∈bh,o=DX) (Tq:sg.nob≤T.hp.length)
 {ds cf:List D} {δ:Nat→Option D} (Uw:∀(c:Nat) (d:D),ds[c]? =some d→δ c=some d) (hn:∀nd∈tape,Q δ nd) (Tn:aW (bQ δ) sD=some cf) {out:List D} (Au:DO P E f n K k L sg DX T' cf out):DO P E f n K k L sg td T ds out:=by
 intro w0 w β b cs a U4 hb U6 inv hf hd;obtain⟨pJ,Uz⟩:=inv.reD (δ:=δ) (fun c d h=>Uw c d (by rw[hd] at h;exact h)) (Q:=Q) (r:=tape) hn;rw[Y8,show(⟨E.G.n,Q,E.G.L⟩:GP)=E.G by rw[hG]] at pJ;have Ib:=bX.iE Uz hf;have bc:=Je ok aY hc jW (b:=b) (cs:=cs) hb aP m2 td _ _ bh _ a w aM Ib pJ U6;obtain⟨l,T3,cP,A',ak,a',w',h1,h2,h3,h4,h5,h6,h7⟩:=bc.ex;rcases h7 with⟨h7,_⟩|⟨h7,h8⟩
 ·cases h7
 ·unfold TN at h7;split at h7
  ·rename_i DW A2 hz;rcases aB h7 with⟨hi,h7⟩|⟨_,h7⟩
   ·cases h7;obtain rfl:=cm9 T3 (h1 _ xn);simp only [xf] at hi;obtain⟨⟨e1,e2⟩,e3⟩:=hi;have mg:=lQ _ _ e1;subst mg;rw[dg] at e3;have hk:=Ol e3;obtain⟨aO,i1,g1,i2,hI,n1,bx⟩:=PM ok hG hL hz h3 (ds1:=cf) (by rw[h4.d];exact Tn) e2 k;have so:=h3.fY g1;have yV:=Au w0 w' _ b cs a' U4 hb h6 i1 (bx K n _ (h2.mono so)) rfl;obtain⟨a3,w3,td3,v,gu,fn,q1,q2,q3,q4,q5,q6,q7,q8,q9,Ni⟩:=yV;have hx4:ak.x=β.x:=h4.x;refine⟨a3,w3,td3,v,gu,fn,Steps.trans h8 q1,q2,q3,q4,q5,q6,fun B hB=> ?_,fun bb c h=> ?_,q9,Ni.trans (g1.x.trans hx4)⟩
    ·rw[q7 B hB];exact Wv (β0:={β with d:=δ}) hk hB (by rw[zO];omega) h4 h5 g1
    ·exact q8 bb c (g1.z bb c (h4.z bb c h))
   ·cases h7
  ·cases h7
theorem bc8{G:Nat}{ρ:List Nat}{aS:List xM}{β dZ:ah}{A:AW}(h:oY G ρ aS β dZ)(hA:∀v v',ai β v v'→ai β (rz A v) v'){tv v v':xM}(hi:RO G ρ aS A tv v=true)(hv:ai β v v'):ai dZ tv v':=by
 unfold RO at hi;split at hi
 ·split at hi
  ·cases hv with
   |tuple _ p' hp h1=>
    obtain⟨k1,k2⟩:=ID h hA hi;refine .tuple _ p' (k1.trans hp) fun i a b ha hb=> ?_
    rename_i l';have eY:i<l'.length:=by rw[hp];exact(xe.1 hb).1
    exact EM h hA (k2 i _ _ ha (xc eY)) (h1 i _ _ (xc eY) hb)
  ·cases hi
 ·exact EM h hA hi hv
include ok aY hG hL in
theorem bh6{call:cL→List xM→AW→aZ xM}(hc:fN P E call){bL:List Oper→Fr→AW→aZ Fr}{n:Nat}(jW:tE P E n bL){f:FuncId}{fn:Func}(nP:P.funcs[f]? =some fn){rs:List ResultVar}(hrs:fn.results=⟨rs⟩){K k aP m2:Nat}{sg:aG}{td:List Item}{T:aI}{T1:List Nat}{Sb sD:List xM}{tape:List Node}{bh:List (List Item)}
 (aM:tT E sq call n bL (TI E rs L sg T1 Sb sD) aa2 aP m2 td (pb K T.tm) (T.aw k L tape)=some bh) (Tq:sg.nob≤T.hp.length)
 {ds cf:List D} {δ:Nat→Option D} (Uw:∀(c:Nat) (d:D),ds[c]? =some d→δ c=some d) (hn:∀nd∈tape,Q δ nd) (Tn:aW (bQ δ) sD=some cf):DO P E f n K k L sg td T ds cf:=by
 intro w0 w β b cs a U4 hb U6 inv hf hd;obtain⟨pJ,Uz⟩:=inv.reD (δ:=δ) (fun c d h=>Uw c d (by rw[hd] at h;exact h)) (Q:=Q) (r:=tape) hn;rw[Y8,show(⟨E.G.n,Q,E.G.L⟩:GP)=E.G by rw[hG]] at pJ;have Ib:=bX.iE Uz hf;have bc:=Je ok aY hc jW (b:=b) (cs:=cs) hb aP m2 td _ _ bh _ a w aM Ib pJ U6;obtain⟨l,T3,cP,A',ak,a',w',h1,h2,h3,h4,h5,h6,h7⟩:=bc.ex;rcases h7 with⟨h7,h8⟩|⟨h7,_⟩
 ·unfold TI at h7;split at h7
  ·rename_i v hv;split at h7
   ·rename_i DW A2 hz;rcases aB h7 with⟨hi,h7⟩|⟨_,h7⟩
    ·cases h7;simp only [xf] at hi;obtain⟨⟨⟨e1,e2⟩,e3⟩,e4⟩:=hi;have mg:=lQ _ _ e1;subst mg;rw[dg] at e3 e4;have hk:=Ol e3;obtain⟨v',r1,r2⟩:=Yy ok h3 h2 hrs hv;obtain⟨aO,i1,g1,i2,hI,n1,bx⟩:=PM ok hG hL hz h3 (ds1:=cf) (by rw[h4.d];exact Tn) e2 k;have so:=h3.fY g1;refine⟨a',w',T3,v',_,fn,h8,h6,by rw[U4];exact nP,r1,i1,bc8 hI i2.zV e4 (r2.mono so),fun B hB=>Wv (β0:={β with d:=δ}) hk hB (by rw[zO];omega) h4 h5 g1,fun bb c h=>g1.z bb c (h4.z bb c h),fun c d h=>h,g1.x.trans h4.x⟩
    ·cases h7
   ·cases h7
  ·cases h7
 ·cases h7
end
def uL(P:Program)(LL:World→Prop)(k:Nat)(L:List (Option ap))(f:FuncId)(sg:aG)(ds cf:List D):Prop:=
 ∀(w:World) (β:ah) (args':List xM),Inv w (G0 L LL) β ((mA sg.hp).aw k L []) w→β.d=(fun c=>ds[c]?)→aT β sg.args args'→
  Calls P f ⟨args'⟩ w fun e w'=>∃v ak,e= .returned v∧Inv w (G0 L LL) ak ((mA sg.hp').aw k L []) w'∧ai ak sg.rv v∧(∀B,B<L.length+sg.nob→ak B=β B)∧(∀b c,β.z b=some c→ak.z b=some c)∧(∀(c:Nat) (d:D),cf[c]? =some d→ak.d c=some d)∧ak.x=β.x
def vY(args:List xM):List (Nat×xM):=args.zipIdx.map fun p=>(p.2,p.1)
theorem bo0{args:List xM}{t:Nat}{v:xM}(h:(t,v)∈vY args):args[t]? =some v:=by
 unfold vY at h;obtain⟨p,hp,e⟩:=xJ.1 h;have:=List.mem_zipIdx_iff_getElem?.1 hp;cases e;exact this
theorem Inv.T7{w0 w:World}{n:Nat}{Q Q':(Nat→Option D)→Node→Prop}{LL:World→Prop}{β:ah}{A:AW}(h:Inv w0 ⟨n,Q,LL⟩ β A w)(hA:A.tape=[]):Inv w0 ⟨n,Q',LL⟩ β A w:=
 ⟨h.below,h.gU,h.dh,h.loc,h.inj,h.cont,h.jm,h.bH,h.sep,(fun nd cS=>absurd cS (by rw[hA];exact List.not_mem_nil)),h.own,h.jj,h.lay,h.xg,h.jv,h.zo⟩
section
variable{P:Program}{E:av}{L:List (Option ap)}{Q:(Nat→Option D)→Node→Prop}{LL:World→Prop}(hG:E.G=⟨L.length,Q,LL⟩)
include hG in
theorem aZ1{f:FuncId}{fn:Func}{c:Code}(nP:P.funcs[f]? =some fn)(C5:fn.body=some c){sg:aG}(aF:sg.args.length≤fn.ntmps){K k:Nat}{ds cf:List D}
 (Mt:DO P E f fn.ntmps K k L sg [.code c] ⟨vY sg.args,sg.hp⟩ ds cf):uL P LL k L f sg ds cf:=by
 intro w β args' inv hd fQ cs;have pJ:Inv w E.G β ((aI.mk (vY sg.args) sg.hp).aw k L []) w:=by
  rw[hG];exact inv.T7 rfl
 let b:Frame:={(default:Frame) with fn:=f,kind:= .normal,roundOf:=none}
 have bm:sg.args.length=args'.length:=fQ.1;have HY:((⟨args'⟩:Array xM)++Array.replicate (fn.ntmps - args'.length) undef).size=fn.ntmps:=by simp;omega
 have Qg:Frame.enter P f ⟨args'⟩ .normal=b.atR {tmps:=(⟨args'⟩:Array xM)++Array.replicate (fn.ntmps - args'.length) undef,defers:=[]} [.code c]:=by
  simp[Frame.enter,Frame.atR,nP,C5,b]
 have hf:bX β fn.ntmps ((pb K (vY sg.args)).get J) ((⟨args'⟩:Array xM)++Array.replicate (fn.ntmps - args'.length) undef):=by
  refine⟨HY,fun t=> ?_⟩;rcases PF K (vY sg.args) t with e|⟨tv,h1,e⟩
  ·rw[e];exact .j9 _
  ·rw[e];have ha:=bo0 h1;have ht:t<sg.args.length:=(xe.1 ha).1;have UH:t<args'.length:=by omega
   have hg:((⟨args'⟩:Array xM)++Array.replicate (fn.ntmps - args'.length) undef).getD t undef=args'[t]:=by
    rw[Array.getD_eq_getD_getElem?,Array.getElem?_append_left (by simpa using UH)];simp[UH]
   rw[hg];exact fQ.2 t _ _ ha (xc UH)
 obtain⟨a',w',DX,v,ak,fn',e1,e2,e3,e4,e5,e6,e7,e8,e9,e10⟩:=Mt w w β b cs {tmps:=(⟨args'⟩:Array xM)++Array.replicate (fn.ntmps - args'.length) undef,defers:=[]} rfl rfl rfl pJ hf hd;have hff:fn'=fn:=by
  have:P.funcs[f]? =some fn':=e3;rw[nP] at this;cases this;rfl
 subst hff;rw[hG] at e5;refine⟨.returned v,w',{b.atR a' DX with mode:= .returning},⟨v,ak,rfl,e5.T7 rfl,e6,e7,e8,e9,e10⟩,?_,rfl,rfl,e2,rfl,_,nP,e4⟩;rw[Qg];exact e1
end
end
end Go.Ex
