/- A verified evaluator of Go functions. -/
import Derived.Test.YthicpeihkkokmaaGreatDoorX8
import Derived.ProofKit
import Derived.Stop.Joined
import GoSem.ClaimJoined
import Derived.MakeChecks
import Derived.Test.YthicpeihkkokmaaGreatDoorX6
import Derived.Test.YthicpeihkkokmaaGreatDoorX4
set_option linter.unusedVariables false
set_option linter.unusedSimpArgs false
namespace Go.Ex
variable{P:Program}{w w0 w':World}{k n B B' K:Nat}{L:Gy}{δ lh:FM}{nd:Node}{f:FuncId}{E:az}{β β':ai}{A A':AW}{G:GP}{b tb blk:aG}{cs:List Frame}{m0:Machine}{v' tc tv:xM}{ρ:Es}{aM:C3}{d:D}{l:Loc}{o:Option Obj}{tape r:List Node}{Q:(FM)->Node->Prop}{LL:World->Prop}{td v7:List Item}{bt:List (List Item)}{fn:Func}
open Go.RowKit
noncomputable section
section
def F7(P:Program)(g:xN->DataW Unit->Option (List xM)):Nat->List Field->List (DataW Unit)->Option (List xM)
 |_,[],[]=>some []
 |o,f::fs,d::ds=>if f.offset=o then
  (match g f.type d with
  |some l=>if l.length=P.cellsOf f.type then(match F7 P g (o+l.length) fs ds with|some r=>some (l++r)|none=>none) else none
  |none=>none)
  else none
 |_,_,_=>none
def F8(g:DataW Unit->Option (List xM))(c:Nat):List (DataW Unit)->Option (List xM)
 |[]=>some []
 |d::ds=>(match g d with
  |some l=>if l.length=c then(match F8 g c ds with|some r=>some (l++r)|none=>none) else none
  |none=>none)
def AA(P:Program):Nat->xN->DataW Unit->Option (List xM)
 |0,_,_=>none
 |m+1,t,d=>
  match d with
  | .lit (.bool b)=>(match P.underlying t with|some .bool=>some [.bool b]|_=>none)
  | .lit (.int k n)=>(match P.underlying t with|some (.int _)=>some [.int k n]|_=>none)
  | .lit (.string b)=>(match P.underlying t with|some .string=>some [.string ⟨⟨b⟩⟩]|_=>none)
  | .agg ds=>(match P.underlying t with
   |some (.struct fs)=>(match F7 P (AA P m) 0 fs.toList ds with|some l=>if l.length=P.cellsOf t then some l else none|none=>none)
   |some (.array _ e)=>(match F8 (AA P m e) (P.cellsOf e) ds with|some l=>if l.length=P.cellsOf t then some l else none|none=>none)
   |_=>none)
  |_=>none
theorem Uu{α β:Type}{f:α->Option β}{a:α}{l:List α}{r:List β}(h:(a::l).mapM f=some r):∃b r',f a=some b/\l.mapM f=some r'/\r=b::r':=by
 rw[List.mapM_cons] at h;cases h1:f a with
 |none=>grind
 |some b=>
  rw[h1] at h;cases h2:l.mapM f with
  |none=>grind
  |some r'=>grind
theorem VN{α:Type}(cs:List α)(o a b:Nat):(cs.drop o).take (a+b)=(cs.drop o).take a++(cs.drop (o+a)).take b:=by
 rw[List.take_add,List.drop_drop]
theorem Nj{w:World}{pO:Nat}{P4:Nat->Bool}{RF:Bool}:∀(aT m:Nat) (t:xN) (cs:C3) (d:DataW Unit) (p:List MemPlace) (l:C3),
 DataW.trod (fun _=>()) P w pO P4 RF aT t cs=some (d,p)->AA P m t d=some l->cs=l
 |0,m,t,cs,d,p,l,h,hl=>by cases h
 |aT+1,0,t,cs,d,p,l,h,hl=>by cases hl
 |aT+1,m+1,t,cs,d,p,l,h,hl=>by
  unfold AA at hl;cases hu:P.underlying t with
  |none=>grind
  |some kd=>
   have bE8:∀fs,kd= .struct fs->cs=l:=by
    rintro fs rfl;unfold DataW.trod at h;rw[hu] at h;simp only at h;split at h
    ·rename_i aE;obtain⟨xs,hx,e⟩:=xp.1 h;cases e;simp only [hu] at hl;split at hl
     ·rename_i l' fG;split at hl
      ·rename_i lm;cases hl;have go:∀(L:List Field) (o:Nat) (xs:List (DataW Unit×List MemPlace)) (l:C3),L.mapM (fun f=>DataW.trod (fun _=>()) P w pO P4 RF aT f.type ((cs.drop f.offset).take (P.cellsOf f.type)))=some xs->
        F7 P (AA P m) o L (xs.map (·.1))=some l->(cs.drop o).take l.length=l:=by
        intro L
        induction L with
        |nil=>grind [F7]
        |cons f L ih=>
         intro o xs l h1 h2;obtain⟨b,r',e1,e2,rfl⟩:=Uu h1;rw[List.map_cons] at h2;unfold F7 at h2;split at h2
         ·rename_i ho;split at h2
          ·rename_i l1 fM;split at h2
           ·rename_i hc;split at h2
            ·rename_i l2 aL;cases h2;obtain⟨b1,b2⟩:=b;have q1:=Nj aT m _ _ _ _ _ e1 fM;have q2:=ih _ _ _ e2 aL;rw[xa,VN,q2,hc,<-ho,q1]
            ·cases h2
           ·cases h2
          ·cases h2
         ·cases h2
       grind
      ·cases hl
     ·cases hl
    ·cases h
   have bF5:∀n e,kd= .array n e->cs=l:=by
    rintro n e rfl;unfold DataW.trod at h;rw[hu] at h;simp only at h;split at h
    ·rename_i aE;obtain⟨xs,hx,e'⟩:=xp.1 h;cases e';simp only [hu] at hl;split at hl
     ·rename_i l' fG;split at hl
      ·rename_i lm;cases hl;have go:∀(n s:Nat) (xs:List (DataW Unit×List MemPlace)) (l:C3),(List.range' s n).mapM (fun i=>DataW.trod (fun _=>()) P w pO P4 RF aT e ((cs.drop (i*P.cellsOf e)).take (P.cellsOf e)))=some xs->
        F8 (AA P m e) (P.cellsOf e) (xs.map (·.1))=some l->(cs.drop (s*P.cellsOf e)).take l.length=l:=by
        intro n
        induction n with
        |zero=>grind [F8]
        |succ n ih=>
         intro s xs l h1 h2;rw[List.range'_succ] at h1;obtain⟨b,r',e1,e2,rfl⟩:=Uu h1;rw[List.map_cons] at h2;unfold F8 at h2;split at h2
         ·rename_i l1 fM;split at h2
          ·rename_i hc;split at h2
           ·rename_i l2 aL;cases h2;obtain⟨b1,b2⟩:=b;have q1:=Nj aT m _ _ _ _ _ e1 fM;have q2:=ih _ _ _ e2 aL;rw[Nat.succ_mul] at q2;rw[xa,VN,hc,q2,q1]
           ·cases h2
          ·cases h2
         ·cases h2
       rw[List.range_eq_range'] at hx
       grind
      ·cases hl
     ·cases hl
    ·cases h
   cases kd with
   |struct fs=>grind
   |array n e=>grind
   |bool=>
    unfold DataW.trod at h
    grind
   |int k=>
    unfold DataW.trod at h;rw[hu] at h;split at h<;>first|(simp at*;done)|skip
    all_goals(first|(split at h;(rename_i hq;cases h;simp only [hu] at hl;cases hl;rw[hq.1]);(cases h))|(simp_all;done))
   |string=>
    unfold DataW.trod at h;rw[hu] at h;split at h<;>first|(simp at*;done)|skip
    all_goals(first|(split at h;(cases h;simp only [hu] at hl;cases hl;rfl);(cases h))|(simp_all;done))
   |_=>
    exfalso;rw[hu] at hl;cases d with
    |lit q=>cases q<;>cases hl
    |_=>cases hl
theorem Wi{w:World}:∀{laid:List (String×DataW Unit)} {ps:List MemPlace} {n:String} {d:DataW Unit},DataW.LaidVars P w laid ps->(n,d)∈laid->
 ∃g t cs aT p,P.globalNamed n=some g/\(P.globals[g]?).map (·.type)=some t/\w.var? P n=some cs/\DataW.trod (fun _=>()) P w 0 (fun _=>true) false aT t cs.toList=some (d,p)
 |[],_,_,_,_,h=>by cases h
 |(n',d')::r,ps,n,d,hl,h=>by
  obtain⟨g,t,cs,aT,p,q,h1,h2,h3,h4,h5,_⟩:=hl;cases h with
  |head=>exact⟨g,t,cs,aT,p,h1,h2,h3,h4⟩
  |tail _ h=>exact Wi h5 h
theorem uS{laid:List (String×DataW Unit)}(h:laidMetH P laid w)(hp:(laid.all fun x=>x.2.handleName?.isNone)=true){n:String}{d:DataW Unit}{g:Nat}{t:xN}{l:C3}(m:Nat)(hm:(n,d)∈laid)
 (hg:P.globalNamed n=some g) (ht:(P.globals[g]?).map (·.type)=some t) (hl:AA P m t d=some l):∃e fz,w.heap[g]? =some (.cells ⟨l⟩ e fz):=by
 rw[MakeChecks.laidMetH_plain _ _ _ hp] at h;obtain⟨ps,h1,_⟩:=h;obtain⟨g',t',cs,aT,p,e1,e2,e3,e4⟩:=Wi h1 hm;rw[hg] at e1;cases e1;rw[ht] at e2;cases e2;have:=Nj aT m _ _ _ _ _ e4 hl;simp only [World.var?,hg,xB] at e3;split at e3
 ·rename_i bB e fz hh;cases e3;exact⟨e,fz,by rw[hh,<-this]⟩
 ·cases e3
theorem xW:∀(k:Nat) (l:Gy) (i:Nat) (x:aG),(fill k l).get none i=some x->l[i]? =some (some x)
 |0,l,i,x,h=>by cases h
 |k+1,[],i,x,h=>by
  have h':(T.node (fill k []) none (fill k [])).get none i=some x:=h;rw[T.ky] at h';split at h'
  ·cases h'
  ·split at h'
   ·have:=xW k _ _ _ h';simp at this
   ·have:=xW k _ _ _ h';simp at this
 |k+1,a::r,i,x,h=>by
  have h':(T.node (fill k (alt r true)) a (fill k (alt r false))).get none i=some x:=h;rw[T.ky] at h';split at h'
  ·rename_i h0;subst h0;rw[h'];rfl
  ·split at h'
   ·have:=xW k _ _ _ h';rw[CE] at this;rw[show i=2*(i/2)+1 by omega,List.getElem?_cons_succ];simpa using this
   ·have:=xW k _ _ _ h';rw[CE] at this;rw[show i=(2*(i/2 - 1)+1)+1 by omega,List.getElem?_cons_succ];simpa using this
def yD(v:xM):Bool:=match v with| .bool _=>true| .int _ _=>true| .string _=>true|_=>false
theorem aD4(β:ai){v:xM}(h:yD v=true):aj β v v:=by
 unfold yD at h;split at h
 ·exact .bool _
 ·exact .int _ _
 ·exact .string _
 ·cases h
def AP(L:Gy)(δ:FM:=fun _=>none)(z:GU:=fun _=>none):ai where
 f:=fun g=>match L[g]? with
  |some (some ⟨.cells cs,es,_,_,_⟩)=>some ⟨g,0,es,cs.length⟩
  |some none=>some ⟨g,0,0,0⟩
  |_=>none
 z:=z
 d:=δ
 x:=⟨fun _=>False,z⟩
 o:=fun _=>none
theorem FR(L:Gy)(δ:FM)(z:GU)(g:Nat):(AP L δ z) g=match L[g]? with|some (some ⟨.cells cs,es,_,_,_⟩)=>some ⟨g,0,es,cs.length⟩|some none=>some ⟨g,0,0,0⟩|_=>none:=rfl
def PQ(L:Gy)(w:World):Prop:=∀g,g<L.length->L[g]? =some none\/∃cs es,L[g]? =some (some ⟨.cells cs,es,false,true,jN⟩)/\(cs.all yD)=true/\∃e fz,w.heap[g]? =some (.cells ⟨cs⟩ e fz)
theorem aw2(hL:PQ L w):
 ∀(Q:(FM)->Node->Prop) (LL:World->Prop) (δ:FM) (z:GU) (tape:List Node),LL w->L.length<=w.heap.size->vq z w->(∀nd∈tape,Q δ nd)->Inv w ⟨L.length,Q,LL⟩ (AP L δ z) ((vK k L).pop tape) w:=by
 intro Q LL δ z tape TJ aV bk Tg;have ae0:∀g l,AP L δ z g=some l->g<L.length/\l.b=g/\l.d=0/\(L[g]? =some none\/∃cs es e fz,L[g]? =some (some ⟨.cells cs,es,false,true,jN⟩)/\(cs.all yD)=true/\w.heap[g]? =some (.cells ⟨cs⟩ e fz)/\l=⟨g,0,es,cs.length⟩):=fun g l hl=>by
  have hg:g<L.length:=by
   rw[FR] at hl;split at hl
   ·grind
   ·grind
   ·cases hl
  rcases hL g hg with h1|⟨cs,es,h1,h2,e,fz,h3⟩
  ·rw[FR,h1] at hl
   grind
  ·rw[FR,h1] at hl
   grind
 have Au:(vK k L).next=L.length:=eH L;refine⟨nG.refl _ _,fun B l h=> ?_,fun B h=> ?_,fun B l h=> ?_,fun B B' l l' h h' hb _ _=> ?_,fun B blk l h h'=> ?_,fun g hg=> ?_,bk,(fun B l kb hG h ha hs=>absurd (ae0 B l h).1 (Nat.not_lt.2 hG)),Tg,fun B k' hk=> ?_,(fun B v h=>by cases h),TJ,(fun b h=>h.elim),aV,fun b c h=> .inl h,(fun b hh hy=>by cases hy)⟩
 ·show B<(vK k L).next;grind
 ·have h:(vK k L).next<=B:=h;rw[Au] at h;show(vK k L).get B=none;cases hq:(vK k L).get B with
  |none=>rfl
  |some x=>
   have:=xW k L B x hq
   grind
 ·grind
 ·grind
 ·obtain⟨hg,_,_,hq⟩:=ae0 B l h';have:=xW k L B blk h;rcases hq with h1|⟨cs,es,e,fz,h1,h2,hh,rfl⟩
  ·grind
  ·rw[h1] at this;cases this;refine⟨⟨cs⟩,e,fz,hh,NS,NS,(fun i v hv=>⟨v,Ns,aD4 _ (List.all_eq_true.1 h2 v (xu hv))⟩),(fun h=>by cases h),(fun h=>by cases h),rfl,(fun h=>absurd rfl h)⟩
 ·rcases hL g hg with h1|⟨cs,es,h1,h2,e,fz,h3⟩
  ·refine⟨⟨g,0,0,0⟩,?_,rfl,rfl⟩;rw[FR,h1]
  ·refine⟨⟨g,0,es,cs.length⟩,?_,rfl,rfl⟩;rw[FR,h1]
 ·have hq:=xW k L B k' hk;rcases hL B (xe.1 hq).1 with h1|⟨cs,es,h1,_⟩
  ·grind
  ·rw[hq] at h1;cases h1;trivial
end
def RdL(z:GU)(ds:Di)(vs:C3):Prop:=ds.length=vs.length/\∀(i:Nat) (d:D) (v:xM),ds[i]? =some d->vs[i]? =some v->Rd z d v
def FnC(P:Program)(L:World->Prop)(f:FuncId)(ds:Di)(ah:D):Prop:=
 ∀(w:World) (z:GU) (args':C3),L w->vq z w->RdL z ds args'->
  Calls P f ⟨args'⟩ w fun e w'=>∃v z',e= .returned v/\Below w.heap.size w w'/\vq z' w'/\(∀b c,z b=some c->z' b=some c)/\(∀b c,z' b=some c->z b=some c\/w.heap.size<=b)/\Rd z' ah v
def aa3(P:Program)(L:World->Prop)(δ:FM)(nd:Node)(f:FuncId):Prop:=
 ∃ds d,aH (bR δ) nd.args=some ds/\res δ nd.res=some d/\FnC P L f ds d
def GQ(P:Program)(L:World->Prop)(δ:FM)(nd:Node):Prop:=
 match nd.k with
 | .call f=>aa3 P L δ nd f
 |_=>bY δ nd
theorem GQ.op{L:World->Prop}(h:GQ P L δ nd):bY δ nd:=by
 grind [GQ,hk,bY]
theorem GQ.call{L:World->Prop}(h:GQ P L δ nd)(hk:nd.k= .call f):aa3 P L δ nd f:=by
 grind [GQ,hk]
section
variable(ok:E.Ok P)(inv:Inv w0 E.G β A w)
include ok inv in
theorem Inv.laid:E.G.L w:=ok.lx w0 w inv.lay fun b hb=>inv.below.block b (xK hb inv.jM) (fun hx=>by have:=inv.xg b hx;omega)
theorem Inv.fresh(inv:Inv w0 E.G β A w){z':GU}(hb:Below w.heap.size w w')(bk:vq z' w')(h1:∀b c,β.z b=some c->z' b=some c)(h2:∀b c,z' b=some c->β.z b=some c\/w.heap.size<=b):
 Inv w0 E.G {β with z:=z'} A w'/\β.grow {β with z:=z'} A.next:=by
 have hg:β.grow {β with z:=z'} A.next:=⟨fun _ _=>rfl,h1,fun _ _=>rfl,rfl,rfl⟩;have aN:=inv.gy hg;refine⟨⟨inv.below.trans ⟨hb.os,hb.tape,hb.output,hb.size,fun k hk _=>hb.block k hk⟩,inv.ft,inv.du,fun B l e=>⟨xK (inv.loc B l e).1 hb.size,(inv.loc B l e).2⟩,inv.inj,fun B blk l hk e=> ?_,inv.jn,bk,fun B l blk hG e hk hs=> ?_,inv.dX,
  fun B k hk=>(inv.own B k hk).mono aN,inv.iG,inv.lay,inv.xg,inv.jM,fun b c h=>(h2 b c h).elim (fun h=>inv.zo b c h) (fun h=> .inr (.inl (xH inv.below.size h))),fun b hh hy=> ?_⟩,hg⟩
 ·rw[hb.block l.b (inv.loc B l e).1];exact(inv.cont B blk l hk e).mono aN
 ·cases hz:z' l.b with
  |none=>exact hz
  |some c=>
   exfalso;rcases h2 _ _ hz with h|h
   ·grind [hk,inv.sep]
   ·have:=(inv.loc B l e).1;omega
 ·obtain⟨y1,y2,y3,y4⟩:=inv.dP b hh hy;have bP:=(Array.getElem?_eq_some_iff.1 y1).1;refine⟨by grind [hb.block],?_,y3,y4⟩;show z' b=none;cases hz:z' b with
  |none=>rfl
  |some c=>
   grind
end
section
end
section
variable{γ:Type}(E:az)(sq:Cf)(call:eL->C3->AW->bp xM)(n:Nat)
abbrev KU(γ:Type):=List Item->Fr->AW->Option (List γ)
def X8(bO:HF->Fr->AW->bp Fr)(fin:Fr->AW->Option (List γ))(head ih:KU γ)(eI:List Item)(fr:Fr)(A:AW):Option (List γ):=
 match eI with
 |[]=>fin fr A
 | .code .ret::_=>fin fr A
 | .code .skip::k=>ih k fr A
 | .code (.label _)::k=>ih k fr A
 | .code (.seq a b)::k=>ih (.code a:: .code b::k) fr A
 | .code (.cond c x y)::k=>match ev E (fr.get J) c with
  | .bool b=>ih (.code (bs b x y)::k) fr A
  |_=>none
 | .code (.block id c)::k=>ih (.code c:: .inBlock id::k) fr A
 | .code (.loop c)::k=>head (.code c:: .inLoop c::k) fr A
 | .code (.scope c)::k=>ih (.code c:: .inScope c::k) fr A
 | .code (.exit id)::k=>match exitTo id k with|some k'=>ih k' fr A|none=>none
 | .code (.goto l)::k=>match gotoIn l k with|some k'=>ih k' fr A|none=>none
 | .code (.region _ ⟨ops⟩ false)::k=>kY (sh E sq call n ops ops fr A) (fun p=>ih k p.1 p.2)
 | .code (.region _ ⟨ops⟩ true)::k=>kY (bO ops fr A) (fun p=>ih k p.1 p.2)
 | .inBlock _::k=>ih k fr A
 | .inScope _::k=>ih k fr A
 | .inLoop c::k=>head (.code c:: .inLoop c::k) fr A
 |_=>none
abbrev UT(γ:Type):=List Item->az->Cf->(eL->C3->AW->bp xM)->Nat->(HF->Fr->AW->bp Fr)->(Fr->AW->Option (List γ))->KU γ->KU γ->Fr->AW->Option (List γ)
def br5(c:Code):UT γ:=
 Code.rec (motive:=fun _=>UT γ)
  (fun k _ _ _ _ _ _ _ ih fr A=>ih k fr A)
  (fun _ ops dr k E sq call n bO _ _ ih fr A=>bs dr (kY (bO ops.toList fr A) (fun p=>ih k p.1 p.2)) (kY (sh E sq call n ops.toList ops.toList fr A) (fun p=>ih k p.1 p.2)))
  (fun a b _ _ k _ _ _ _ _ _ _ ih fr A=>ih (.code a:: .code b::k) fr A)
  (fun c x y _ _ k E _ _ _ _ _ _ ih fr A=>match ev E (fr.get J) c with| .bool b=>ih (.code (bs b x y)::k) fr A|_=>none)
  (fun id c _ k _ _ _ _ _ _ _ ih fr A=>ih (.code c:: .inBlock id::k) fr A)
  (fun c _ k _ _ _ _ _ _ head _ fr A=>head (.code c:: .inLoop c::k) fr A)
  (fun _ _ _ _ _ _ _ _ _ _ _ _ _ _ _ _ _=>none)
  (fun id k _ _ _ _ _ _ _ ih fr A=>match exitTo id k with|some k'=>ih k' fr A|none=>none)
  (fun c _ k _ _ _ _ _ _ _ ih fr A=>ih (.code c:: .inScope c::k) fr A)
  (fun _ k _ _ _ _ _ _ _ ih fr A=>ih k fr A)
  (fun l k _ _ _ _ _ _ _ ih fr A=>match gotoIn l k with|some k'=>ih k' fr A|none=>none)
  (fun _ _ _ _ _ _ fin _ _ fr A=>fin fr A)
  (fun _ _ _ _ _ _ _ _ _ _ _ _=>none) c
def bl8(i:Item):UT γ:=
 Item.rec (motive:=fun _=>UT γ)
  (fun c=>br5 c)
  (fun _ k _ _ _ _ _ _ _ ih fr A=>ih k fr A)
  (fun c k _ _ _ _ _ _ head _ fr A=>head (.code c:: .inLoop c::k) fr A)
  (fun _ k _ _ _ _ _ _ _ ih fr A=>ih k fr A)
  (fun _ _ _ _ _ _ _ _ _ _ _ _ _=>none)
  (fun _ _ _ _ _ _ _ _ _ _ _ _=>none)
  (fun _ _ _ _ _ _ _ _ _ _ _ _=>none)
  (fun _ _ _ _ _ _ _ _ _ _ _=>none)
  (fun _ _ _ _ _ _ _ _ _ _ _ _ _ _ _=>none)
  (fun _ _ _ _ _ _ _ _ _ _ _ _ _=>none) i
def P1(bO:HF->Fr->AW->bp Fr)(fin:Fr->AW->Option (List γ))(head ih:KU γ)(eI:List Item)(fr:Fr)(A:AW):Option (List γ):=
 List.rec (motive:=fun _=>az->Cf->(eL->C3->AW->bp xM)->Nat->(HF->Fr->AW->bp Fr)->(Fr->AW->Option (List γ))->KU γ->KU γ->Fr->AW->Option (List γ))
  (fun _ _ _ _ _ fin _ _ fr A=>fin fr A) (fun i k _=>bl8 i k) eI E sq call n bO fin head ih fr A
theorem aC4(bO:HF->Fr->AW->bp Fr)(fin:Fr->AW->Option (List γ))(head ih:KU γ)(eI:List Item)(fr:Fr)(A:AW):P1 E sq call n bO fin head ih eI fr A=X8 E sq call n bO fin head ih eI fr A:=by
 cases eI with
 |nil=>rfl
 |cons i k=>
  cases i with
  |code c=>
   cases c with
   |region id ops dr=>obtain⟨ops⟩:=ops;cases dr<;>rfl
   |_=>rfl
  |_=>rfl
def tU(bO:HF->Fr->AW->bp Fr)(fin:Fr->AW->Option (List γ))(cut:KU γ)(aT:Nat):Nat->KU γ:=
 Nat.rec (motive:=fun _=>Nat->KU γ) (fun _ _ _ _=>none)
  (fun _ ih m=>P1 E sq call n bO fin (Nat.rec (motive:=fun _=>KU γ) cut (fun m _=>ih m) m) (ih m)) aT
end
section
variable{sq:Cf}(ok:E.Ok P)(aU:E.Seq P sq){γ:Type}
structure Stood (P:Program) (w0:World) (G:GP) (n:Nat) (b:Frame) (cs:List Frame) (β:ai) (A:AW) (m0:Machine) (fin:Fr->AW->Option (List γ)) (cut:KU γ) (bt:List γ):Prop where
 ex:∃(l:List γ) (td:List Item) (cK:Fr) (A':AW) (β':ai) (a':Act) (w':World),(∀c∈l,c∈bt)/\bU β' n (cK.get J) a'.tmps/\Inv w0 G β' A' w'/\β.grow β' A.next/\A.next<=A'.next/\a'.defers=[]/\
  ((fin cK A'=some l/\Steps P m0 (lone {b.atR a' td with mode:= .returning} cs w'))\/(cut td cK A'=some l/\Steps P m0 (lone (b.atR a' td) cs w')))
theorem Stood.mono{b:Frame}{aK:ai}{A1:AW}{m1:Machine}{fin:Fr->AW->Option (List γ)}{cut:KU γ}{bt Gl:List γ}(h:Stood P w0 G n b cs aK A1 m1 fin cut Gl)(hg:β.grow aK A.next)(hn:A.next<=A1.next)(Rt:∀c∈Gl,c∈bt)(hs:Steps P m0 m1):
 Stood P w0 G n b cs β A m0 fin cut bt:=by
 obtain⟨l,td,cK,A',β',a',w',h1,h2,h3,h4,h5,h6,h7⟩:=h.ex;exact⟨l,td,cK,A',β',a',w',fun c hc=>Rt c (h1 c hc),h2,h3,ai.iz hg h4 hn,xH hn h5,h6,h7.imp (fun⟨x,y⟩=>⟨x,Steps.trans hs y⟩) (fun⟨x,y⟩=>⟨x,Steps.trans hs y⟩)⟩
include ok aU in
theorem Jb{call:eL->C3->AW->bp xM}(hc:mc P E call){n:Nat}{bO:HF->Fr->AW->bp Fr}(j7:tK P E n bO){b:Frame}{cs:List Frame}(hb:b.roundOf=none){fin:Fr->AW->Option (List γ)}{cut:KU γ}:
 ∀(aT m:Nat) (eI:List Item) (fr:Fr) (A:AW) (bt:List γ) (β:ai) (a:Act) (w:World),tU E sq call n bO fin cut aT m eI fr A=some bt->bU β n (fr.get J) a.tmps->Inv w0 E.G β A w->a.defers=[]->
  Stood P w0 E.G n b cs β A (lone (b.atR a eI) cs w) fin cut bt
 |0,m,eI,fr,A,bt,β,a,w,h,hf,inv,hd=>by cases h
 |aT+1,m,eI,fr,A,bt,β,a,w,h,hf,inv,hd=>by
  have h':P1 E sq call n bO fin (Nat.rec (motive:=fun _=>KU γ) cut (fun m _=>tU E sq call n bO fin cut aT m) m) (tU E sq call n bO fin cut aT m) eI fr A=some bt:=h;clear h;rw[aC4] at h';have go:∀m pC,tU E sq call n bO fin cut aT m pC fr A=some bt->step P (lone (b.atR a eI) cs w)= .next (lone (b.atR a pC) cs w)->Stood P w0 E.G n b cs β A (lone (b.atR a eI) cs w) fin cut bt:=fun m pC h1 h2=>
   (Jb hc j7 hb aT m pC fr A bt β a w h1 hf inv hd).mono (ai.dg _ _) (xk _) (fun _ h=>h) (.one h2)
  have goH:∀pC,(Nat.rec (motive:=fun _=>KU γ) cut (fun m _=>tU E sq call n bO fin cut aT m) m:KU γ) pC fr A=some bt->step P (lone (b.atR a eI) cs w)= .next (lone (b.atR a pC) cs w)->Stood P w0 E.G n b cs β A (lone (b.atR a eI) cs w) fin cut bt:=fun pC h1 h2=>by
   cases m with
   |zero=>exact⟨bt,pC,fr,A,β,a,w,fun _ h=>h,hf,inv,ai.dg _ _,xk _,hd,.inr ⟨h1,.one h2⟩⟩
   |succ m=>grind
  have cr6:∀td,fin fr A=some bt->step P (lone (b.atR a eI) cs w)= .next (lone {b.atR a td with mode:= .returning} cs w)->Stood P w0 E.G n b cs β A (lone (b.atR a eI) cs w) fin cut bt:=fun td h1 h2=>
   ⟨bt,td,fr,A,β,a,w,fun _ h=>h,hf,inv,ai.dg _ _,xk _,hd,.inl ⟨h1,.one h2⟩⟩
  have region:∀id ops dr k eY,eI= .code (.region id ⟨ops⟩ dr)::k->(Code.region id ⟨ops⟩ dr).wpIn (kg b.roundOf) 0 P (fun e a' w'=>e= .normal/\oZ w0 E.G n β A a.defers eY a' w') a w->(∀p∈eY,∃r,tU E sq call n bO fin cut aT m k p.1 p.2=some r/\∀c∈r,c∈bt)->
   Stood P w0 E.G n b cs β A (lone (b.atR a eI) cs w) fin cut bt:=fun id ops dr k eY ht HD fS=>by
   subst ht;obtain⟨e,a1,w1,⟨rfl,p,hp,aK,g1,g2,g3,g4,g5⟩,Ha⟩:=HD b k cs rfl trivial (P' _ _);obtain⟨r,ey,bE⟩:=fS p hp;exact(Jb hc j7 hb aT m k p.1 p.2 r aK a1 w1 ey g1 g2 (g5.trans hd)).mono g3 g4 bE (StepsIn.steps Ha)
  unfold X8 at h';split at h'
  ·grind [stepR_end]
  ·grind [stepR_ret]
  ·grind [stepR_skip]
  ·grind [stepR_label]
  ·grind [stepR_seq]
  ·rename_i c x y k;have hv:=kB (a:=a) inv hf c;split at h'
   ·rename_i t ht;rw[ht] at hv;generalize wB:a.eval c=cv at hv;cases hv;refine go _ _ h' ?_;have:=stepR_cond (P:=P) (b:=b) (k:=k) (cs:=cs) (w:=w) (x:=x) (y:=y) wB;rw[this];cases t<;>rfl
   ·cases h'
  ·grind [stepR_block]
  ·exact goH _ h' stepR_loop
  ·grind [UO]
  ·grind [hk,stepR_exit]
  ·grind [hk,stepR_goto]
  ·rename_i id ops k;obtain⟨eY,h1,h2⟩:=uT h';refine region id ops false k eY rfl ?_ h2;exact wpIn_region_list (z7 ok aU hc ops fr A eY β a w _ h1 hf inv rfl (fun a' w' hp=>⟨rfl,hp⟩))
  ·rename_i id ops k;obtain⟨eY,h1,h2⟩:=uT h';exact region id ops true k eY rfl (j7 _ w0 ops fr A eY β a w id h1 hf inv) h2
  ·grind [stepR_inBlock]
  ·grind [Uw]
  ·exact goH _ h' stepR_inLoop
  ·cases h'
end
def heads:Code->List Item->List (List Item)
 | .seq a b,k=>heads a (.code b::k)++heads b k
 | .cond _ x y,k=>heads x k++heads y k
 | .block id c,k=>heads c (.inBlock id::k)
 | .loop c,k=>(.code c:: .inLoop c::k)::heads c (.inLoop c::k)
 | .scope c,k=>heads c (.inScope c::k)
 |_,_=>[]
structure jV where
 tm:List (Nat×xM)
 hp:List aG
def oJ(K:Nat)(tm:List (Nat×xM)):Fr:=List.rec (motive:=fun _=>Fr) (T.full J K) (fun p _ ih=>T.set ih p.1 p.2) tm
theorem OM(K:Nat):∀(tm:List (Nat×xM)) (t:Nat),(oJ K tm).get J t=J\/∃tv,(t,tv)∈tm/\(oJ K tm).get J t=tv
 |[],t=> .inl (by rcases T.B7 J J K t with e|e<;>exact e)
 |p::tm,t=>by
  by_cases ht:p.1=t
  ·grind [T.tz,J,oJ,xn]
  ·have e:(oJ K (p::tm)).get J t=(oJ K tm).get J t:=T.tA J (oJ K tm) p.1 t p.2 ht;rw[e];exact(OM K tm t).imp id fun⟨tv,h1,h2⟩=>⟨tv,xo _ h1,h2⟩
def Al(l:List aG):Gy:=fC some l
def jV.aw(T:jV)(k:Nat)(L:Gy)(tape:List Node):AW:=(vK k (iR L (Al T.hp))).pop tape
def cG:Nat:=4294967290
def Ju(v:xM):Bool:=
 match v with
 | .int _ _=>true
 | .bool _=>true
 | .string _=>true
 | .pointer none=>true
 | .slice none 0 0=>true
 | .nilFunc=>true
 | .nilIface=>true
 | .map none=>true
 |_=>false
theorem MW{cY:ai}{v:xM}(h:Ju v=true)(hv:aj β v v'):aj cY v v':=by
 unfold Ju at h;split at h
 ·cases hv;exact .int _ _
 ·cases hv;exact .bool _
 ·cases hv;exact .string _
 ·cases hv;exact .tW
 ·cases hv;exact .yb
 ·cases hv;exact .nilFunc
 ·cases hv;exact .nilIface
 ·cases hv;exact .AX
 ·cases h
def rB(A:AW)(v:xM):xM:=
 match v with
 | .iface B (.chan (some (c+1)))=>match A.get B with
  |some ⟨.own (.chan (some (c'+1))),_,_,_,_⟩=> .iface B (.chan (some (c'+1)))
  |_=> .iface B (.chan (some (c+1)))
 |v=>v
theorem Inv.Ad(inv:Inv w0 G β A w):∀v v',aj β v v'->aj β (rB A v) v':=fun v v' h=>by
 unfold rB;split
 ·rename_i B c;split
  ·rename_i c' es ex ro ty hg;have ho:=inv.own B _ hg;obtain⟨rows,h1,h2⟩:=ho;have qN:β.d c'=some (.sl rows):=by
    obtain⟨x,hx,h1⟩:=xr.1 (show(β.d c').bind (fun x=>if x.cell then some x else none)=_ from h1);split at h1<;>cases h1
    exact hx
   cases h with
   |own _ _ iC a cap ho ha hd=>
    rcases h2 with⟨e1,e2⟩|⟨l,yQ,e1,e2,e3⟩
    ·rw[ho] at e2;injection e2 with e2;injection e2 with e4 e5 e6;subst e1 e4 e6;rw[e5] at ho⊢;exact .own B c' [] none 0 ho (.inl ⟨rfl,rfl⟩) qN
    ·rw[ho] at e2;injection e2 with e2;injection e2 with e4 e5 e6;subst e4 e6;rw[e5] at ho⊢;exact .own B c' rows _ cap ho (.inr ⟨l,e1,rfl⟩) qN
  ·exact h
 ·exact h
section
variable(G:Nat)(ρ:Es)(aM:C3)(A:AW)
def yE(B B':Nat):Bool:=bs (Nat.blt B G) (Nat.beq B B') (match dM ρ (Nat.sub B G) with|some x=>bs (Nat.beq x cG) false (Nat.beq x B')|none=>false)
def Rb(B:Nat):Bool:=bs (Nat.blt B G) false (match dM ρ (Nat.sub B G) with|some x=>Nat.beq x cG|none=>false)
def mY(tc v:xM):Bool:=match tc with| .chan (some (c+1))=>(match dM aM c with|some s=>qo s v|none=>false)|_=>false
def Yw(v:xM):Bool:=match v with| .slice none 0 0=>true|_=>false
def Gp(tv v:xM):Bool:=
 match tv with
 | .chan (some 0)=>true
 | .chan (some (c+1))=>match dM aM c with|some s=>qo s v|none=>false
 | .iface B (.chan (some (c+1)))=>(match v with| .iface B' cv=>Nat.ble G B&&yE G ρ B B'&&fB cv&&mY aM (.chan (some (c+1))) cv|v=>Rb G ρ B&&Yw v&&mY aM (.chan (some (c+1))) v)
 | .map (some B)=>(match v with| .map (some B')=>yE G ρ B B'|_=>false)
 | .pointer (some ⟨B,o,none⟩)=>(match v with| .pointer (some ⟨B',o',none⟩)=>yE G ρ B B'&&Nat.beq o o'|_=>false)
 | .slice (some ⟨B,o,none⟩) n c=>(match v with| .slice (some ⟨B',o',none⟩) n' c'=>yE G ρ B B'&&Nat.beq o o'&&Nat.beq n n'&&Nat.beq c c'&&Nat.ble n c&&bs (Nat.beq B Dp) false true&&bs (Nat.beq B' Dp) false true|_=>false)
 |tv=>Ju tv&&qo tv v
def F5(tv:C3):C3->Bool:=
 List.rec (motive:=fun _=>C3->Bool) (fun b=>List.rec (motive:=fun _=>Bool) true (fun _ _ _=>false) b)
  (fun x _ ih b=>List.rec (motive:=fun _=>Bool) false (fun y t _=>bs (Gp G ρ aM x (rB A y)) (ih t) false) b) tv
def Ap(tv v:xM):Bool:=
 match tv with
 | .agg ⟨l⟩=>(match v with| .agg ⟨l'⟩=>F5 G ρ aM A l l'|_=>false)
 | .func (.func f) ⟨p⟩ ⟨q⟩=>(match v with| .func (.func f') ⟨p'⟩ ⟨q'⟩=>Nat.beq f f'&&F5 G ρ aM A p p'&&F5 G ρ aM A q q'|_=>false)
 |tv=>Gp G ρ aM tv (rB A v)
def F4(tv:C3):C3->Bool:=
 List.rec (motive:=fun _=>C3->Bool) (fun b=>List.rec (motive:=fun _=>Bool) true (fun _ _ _=>false) b)
  (fun x _ ih b=>List.rec (motive:=fun _=>Bool) false (fun y t _=>bs (Ap G ρ aM A x y) (ih t) false) b) tv
def Q3(tv:C3):C3->Bool:=
 List.rec (motive:=fun _=>C3->Bool) (fun b=>List.rec (motive:=fun _=>Bool) true (fun _ _ _=>false) b)
  (fun x _ ih b=>List.rec (motive:=fun _=>Bool) false (fun y t _=>bs (mY aM x y) (ih t) false) b) tv
def Lx(t c:C3):Bool:=
 match t with
 |[]=>true
 |[.agg ⟨l⟩,x]=>(match c with|[.agg ⟨l'⟩,x']=>Q3 aM l l'&&mY aM x x'|_=>false)
 |_=>false
def tO(tb b:aG):Bool:=
 match tb,b with
 |⟨.cells cs,es,ex,ro,ty⟩,⟨.cells bB,ae,fY,fT,gj⟩=>Nat.beq es ae&&nM ex fY&&nM ro fT&&Nat.beq ty gj&&F4 G ρ aM A cs bB
 |⟨.own tc,es,ex,ro,ty⟩,⟨.own c,ae,fY,fT,gj⟩=>Nat.beq es ae&&nM ex fY&&nM ro fT&&Nat.beq ty gj&&fB tc&&fB c&&mY aM tc c
 |⟨.maps tc,es,ex,ro,ty⟩,⟨.maps c,ae,fY,fT,gj⟩=>Nat.beq es ae&&nM ex fY&&nM ro fT&&Nat.beq ty gj&&mY aM tc c
 |⟨.jC ks tc,es,ex,ro,ty⟩,⟨.jC fU c,ae,fY,fT,gj⟩=>Nat.beq es ae&&nM ex fY&&nM ro fT&&Nat.beq ty gj&&mf ks fU&&mY aM tc c
 |⟨.gA ks tc none,es,ex,ro,ty⟩,⟨.gA fU c none,ae,fY,fT,gj⟩=>Nat.beq es ae&&nM ex fY&&nM ro fT&&Nat.beq ty gj&&mf ks fU&&mY aM tc c
 |⟨.rk ks tc,es,ex,ro,ty⟩,⟨.rk fU c,ae,fY,fT,gj⟩=>Nat.beq es ae&&nM ex fY&&nM ro fT&&Nat.beq ty gj&&mf ks fU&&mY aM tc c
 |⟨.pG B tc tl ab0,es,ex,ro,ty⟩,⟨.pG B' c l aB,ae,fY,fT,gj⟩=>Nat.beq es ae&&nM ex fY&&nM ro fT&&Nat.beq ty gj&&yE G ρ B B'&&mY aM tc c&&mY aM tl l&&Lx aM ab0 aB
 |_,_=>false
def Gn(tb:aG):Bool:=
 match tb with
 |⟨.own tc,_,_,_,_⟩=>fB tc&&mY aM tc (.slice none 0 0)
 |_=>false
def Pv(hp:List aG):Es->Bool:=
 List.rec (motive:=fun _=>Es->Bool) (fun b=>List.rec (motive:=fun _=>Bool) true (fun _ _ _=>false) b)
  (fun x _ ih b=>List.rec (motive:=fun _=>Bool) false (fun y t _=>bs (bs (Nat.beq y cG) (Gn aM x) (Nat.ble G y&& (match A.get y with|some blk=>tO G ρ aM A x blk|none=>false))) (ih t) false) b) hp
def bm0(fr:Fr)(tm:List (Nat×xM)):Bool:=fb (fun p=>Ap G ρ aM A p.2 (fr.get J p.1)) tm
def Qx(L:Gy):Nat->Bool:=
 List.rec (motive:=fun _=>Nat->Bool) (fun _=>true) (fun x _ ih i=>bs (KX (A.get i) x) (ih (Nat.succ i)) false) L
def nodupB(l:Es):Bool:=List.rec (motive:=fun _=>Bool) true (fun x t ih=>bs (bs (Nat.beq x cG) true (fb (fun y=>bs (Nat.beq x y) false true) t)) ih false) l
end
def Ao(L:Gy)(T:jV)(ρ:Es)(aM:C3)(fr:Fr)(A:AW):Bool:=
 bm0 (bT L) ρ aM A fr T.tm&&Pv (bT L) ρ aM A T.hp ρ&&Qx A L 0&&nodupB ρ
section
variable{G:Nat}{cX:ai}
theorem N5{v:xM}(h:fB v=true):∃c,v= .chan (some (c+1)):=by
 unfold fB at h
 grind
def SD(β:ai)(s:xM)(d:D):Prop:=d.cell=true/\(∀v',aj β s v'->Rd β.z d v')/\∀d',aX β.d s=some d'->d'=d
theorem aV9{s:xM}(h:aX β.d s=some d):SD β s d:=by
 refine⟨?_,fun v' hv=>(FH h hv).1,fun d' h'=>xC (h'.symm.trans h)⟩;unfold aX at h;split at h
 ·grind [xr]
 all_goals first|(cases h;rfl)|cases h
structure m5 (G:Nat) (ρ:Es) (aM:C3) (β cX:ai):Prop where
 g:∀B,B<G->cX B=β B
 l:∀B x,G<=B->ρ[B - G]? =some x->x≠cG->cX B=β x/\cX.o B=β.o x
 m:∀B,G<=B->ρ[B - G]? =some cG->cX B=none/\cX.o B=some (.slice none 0 0)
 n:∀B,G<=B->ρ[B - G]? =none->cX B=none
 og:∀B v,cX.o B=some v->G<=B/\B<G+ρ.length
 z:cX.z=β.z
 x:cX.x=β.x
 y:cX.y=β.y
 d:∀(c:Nat) (s:xM),aM[c]? =some s->∃d,cX.d c=some d/\SD β s d
theorem FQ{x:Nat}(h:Nat.beq x cG=false):x≠cG:=fun e=>by simp_all
theorem PL{a b:Nat}(h:Nat.blt a b=false):b<=a:=Nat.le_of_not_lt fun bm=>by
 grind [Nat.blt,Nat.ble_eq_true_of_le]
theorem Ye(h:m5 G ρ aM β cX)(hr:yE G ρ B B'=true):cX B=β B'/\(G<=B->cX.o B=β.o B'):=by
 unfold yE at hr;rcases aC hr with⟨h1,h2⟩|⟨h1,h2⟩
 ·have qN:B<G:=xh h1
  grind [xb,h.g]
 ·rw[gg] at h2;have qN:G<=B:=PL h1;split at h2
  ·rename_i x hx;rcases aC h2 with⟨_,h3⟩|⟨h3,h4⟩
   ·cases h3
   grind [FQ,xb,h.l]
  ·cases h2
theorem aN4(h:m5 G ρ aM β cX)(hr:Rb G ρ B=true):cX B=none/\cX.o B=some (.slice none 0 0):=by
 unfold Rb at hr;rcases aC hr with⟨h1,h2⟩|⟨h1,h2⟩
 ·cases h2
 ·rw[gg] at h2;split at h2
  ·rename_i x hx;exact h.m B (PL h1) (by simp_all)
  ·cases h2
theorem tB(h:m5 G ρ aM β cX){v:xM}(hs:mY aM tc v=true):∃c d,tc= .chan (some (c+1))/\cX.d c=some d/\SD β v d:=by
 unfold mY at hs;split at hs
 ·rename_i c;rw[gg] at hs;split at hs
  ·rename_i s cJ;obtain rfl:=uX hs;obtain⟨d,h1,h2⟩:=h.d c s cJ
   grind
  ·cases hs
 ·cases hs
theorem VW(h:m5 G ρ aM β cX){v:xM}(hs:mY aM tc v=true)(hd:eE β.d v=some d):eE cX.d tc=some d:=by
 obtain⟨c,d',rfl,h1,h2⟩:=tB h hs;have fJ:aX β.d v=some d:=by
  unfold eE at hd;split at hd
  ·cases hd
  ·exact hd
 have:=h2.2.2 d fJ;subst this;show(cX.d c).bind _=_;rw[h1];show(if d.cell then some d else none)=some d;rw[h2.1];rfl
theorem VV(h:m5 G ρ aM β cX):∀{t v:C3} {ds:Di},Q3 aM t v=true->aH (eE β.d) v=some ds->aH (eE cX.d) t=some ds
 |[],[],ds,_,hd=>hd
 |[],_::_,ds,hi,_=>by cases hi
 |_::_,[],ds,hi,_=>by cases hi
 |x::t,y::v,ds,hi,hd=>by
  have cb:bs (mY aM x y) (Q3 aM t v) false=true:=hi;rcases aC cb with⟨h1,h2⟩|⟨_,h2⟩
  ·obtain⟨d,r,rfl,h3,h4⟩:=jb hd;unfold aH;rw[VW h h1 h3,VV h h2 h4]
  ·cases h2
theorem aI3(h:m5 G ρ aM β cX){t v:C3}{ds:Di}(hc:Lx aM t v=true)(hd:aH (iF β.d) v=some ds):t=[]\/aH (iF cX.d) t=some ds:=by
 unfold Lx at hc;split at hc
 ·grind
 ·rename_i l x;split at hc
  ·rename_i l' x';rw[xf] at hc;obtain⟨d1,d2,rfl,h1,h2⟩:=jj hd;obtain⟨r,h3,rfl⟩:=xp.1 (show(aH (eE β.d) l').map D.agg=_ from h1);have hx:eE β.d x'=some d2:=by
    obtain⟨c,d',_,_,hsd⟩:=tB h hc.2;unfold iF at h2;split at h2
    ·obtain⟨r2,_,e⟩:=xp.1 h2;subst e;exfalso;obtain⟨c0,_,_,_,h0⟩:=tB h hc.2;have hq:=hc.2;unfold mY at hq;split at hq
     ·rw[gg] at hq;split at hq
      ·rename_i s _;have:=uX hq;subst this;unfold qo at hq;simp at hq
      ·cases hq
     ·cases hq
    ·exact h2
   refine .inr ?_;unfold aH;have e1:iF cX.d (.agg ⟨l⟩)=some (.agg r):=by
    show(aH (eE cX.d) l).map D.agg=_;rw[VV h hc.1 h3];rfl
   have e3:=VW h hc.2 hx;have e2:iF cX.d x=some d2:=by
    obtain⟨c,_,rfl,_,_⟩:=tB h hc.2;exact e3
   grind [aH]
  ·cases hc
 ·cases hc
theorem Jd(h:m5 G ρ aM β cX)(hr:yE G ρ B B'=true)(hl:β B'=some l):cX B=some l:=(Ye h hr).1.trans hl
theorem Vu(h:m5 G ρ aM β cX){v:xM}(hi:Gp G ρ aM tv v=true)(hv:aj β v v'):aj cX tv v':=by
 unfold Gp at hi;split at hi
 ·exact .jT _
 ·rename_i c;rw[gg] at hi;split at hi
  ·rename_i s hs;obtain rfl:=uX hi;obtain⟨d,h1,h2⟩:=h.d c s hs;exact .sym c d v' h1 h2.1 (by rw[h.z];exact h2.2.1 v' hv)
  ·cases hi
 ·rename_i B c;split at hi
  ·rename_i B' cv;simp only [xf] at hi;obtain⟨⟨⟨h0,h1⟩,h2⟩,h3⟩:=hi;obtain⟨c2,d,e1,e2,e3⟩:=tB h h3;cases e1;obtain⟨cc,rfl⟩:=N5 h2;cases hv with
   |own _ _ rows a cap ho ha hd=>
    have fJ:=e3.2.2 (.sl rows) (by show(β.d cc).bind _=_;rw[hd];rfl);rw[<-fJ] at e2;obtain⟨q1,q2⟩:=Ye h h1;exact .own B c rows a cap ((q2 (xh h0)).trans ho) (ha.imp id fun⟨l,x,y⟩=>⟨l,q1.trans x,y⟩) e2
  ·simp only [xf] at hi;obtain⟨⟨h1,h2⟩,h3⟩:=hi;obtain⟨c2,d,e1,e2,e3⟩:=tB h h3;cases e1;unfold Yw at h2;split at h2
   ·cases hv;have fJ:=e3.2.2 (.sl []) rfl;rw[<-fJ] at e2;exact .own B c [] none 0 (aN4 h h1).2 (.inl ⟨rfl,rfl⟩) e2
   ·cases h2
 ·rename_i B;split at hi
  ·rename_i B';cases hv with
   |map _ l hl=>exact .map B l (Jd h hi hl)
  ·cases hi
 ·rename_i B o;split at hi
  ·rename_i B' o';rw[xf] at hi;obtain rfl:=xb hi.2;cases hv with
   |ptr _ _ l hl=>exact .ptr B o l (Jd h hi.1 hl)
  ·cases hi
 ·rename_i B o n c;split at hi
  ·rename_i B' o' n' c';simp only [xf] at hi;obtain⟨⟨⟨⟨⟨⟨h1,h2⟩,h3⟩,h4⟩,h5⟩,h6⟩,h7⟩:=hi;obtain rfl:=xb h2;obtain rfl:=xb h3;obtain rfl:=xb h4;cases hv with
   |slice _ _ _ _ c2 l hl hn hc he=>exact .slice B o n c c2 l (Jd h h1 hl) hn hc he
   |empty=>exact absurd h7 Pp
  ·cases hi
 ·rw[xf] at hi;obtain rfl:=uX hi.2;exact MW hi.1 hv
theorem Iz(h:m5 G ρ aM β cX)(hA:∀v v',aj β v v'->aj β (rB A v) v'):∀{tv v v':C3},F5 G ρ aM A tv v=true->aZ β v v'->aZ cX tv v'
 |[],[],v',_,hv=>by rw[hv.qU];exact aZ.nil _
 |[],_::_,v',hi,_=>by cases hi
 |_::_,[],v',hi,_=>by cases hi
 |x::tv,y::v,v',hi,hv=>by
  have cb:bs (Gp G ρ aM x (rB A y)) (F5 G ρ aM A tv v) false=true:=hi;rcases aC cb with⟨h1,h2⟩|⟨_,h2⟩
  ·obtain⟨y',l',rfl,h3,h4⟩:=hv.pu;exact(Iz h hA h2 h4).cons (Vu h h1 (hA _ _ h3))
  ·cases h2
theorem Fb(h:m5 G ρ aM β cX)(hA:∀v v',aj β v v'->aj β (rB A v) v'){v:xM}(hi:Ap G ρ aM A tv v=true)(hv:aj β v v'):aj cX tv v':=by
 unfold Ap at hi;split at hi
 ·split at hi
  ·cases hv with
   |agg _ p' hp h1=>exact aj.mU (Iz h hA hi ⟨hp,h1⟩)
  ·cases hi
 ·split at hi
  ·simp only [xf] at hi;obtain rfl:=xb hi.1.1;cases hv with
   |func _ _ p' _ q' hp hq h1 h2=>
    have k1:=Iz h hA hi.1.2 ⟨hp,h1⟩;have k2:=Iz h hA hi.2 ⟨hq,h2⟩;exact .func _ _ p' _ q' k1.1 k2.1 k1.2 k2.2
  ·cases hi
 grind [Vu]
theorem Iy(h:m5 G ρ aM β cX)(hA:∀v v',aj β v v'->aj β (rB A v) v'):∀{tv v:C3},F4 G ρ aM A tv v=true->tv.length=v.length/\∀(i:Nat) (x y:xM),tv[i]? =some x->v[i]? =some y->Ap G ρ aM A x y=true
 |[],[],_=>⟨rfl,fun i x y h=>by simp at h⟩
 |[],_::_,hi=>by cases hi
 |_::_,[],hi=>by cases hi
 |x::tv,y::v,hi=>by
  have cb:bs (Ap G ρ aM A x y) (F4 G ρ aM A tv v) false=true:=hi;rcases aC cb with⟨h1,h2⟩|⟨_,h2⟩
  ·obtain⟨k1,k2⟩:=Iy h hA h2;refine⟨by simp[k1],fun i a b ha hb=> ?_⟩;cases i with
   |zero=>simp at ha hb;subst ha;subst hb;exact h1
   |succ i=>simp at ha hb;exact k2 i a b ha hb
  ·cases h2
theorem Ck(h:m5 G ρ aM β cX){v:xM}(hs:mY aM tc v=true){x:D}(g:aX β.d v=some x):aX cX.d tc=some x:=by
 obtain⟨c2,d,rfl,e2,e3⟩:=tB h hs;have hd:=e3.2.2 x g;subst hd;show(cX.d c2).bind _=_;rw[e2];exact if_pos e3.1
theorem ax7(h:m5 G ρ aM β cX)(hA:∀v v',aj β v v'->aj β (rB A v) v')(hi:tO G ρ aM A tb b=true)(hb:gB β l b o):gB cX l tb o:=by
 unfold tO at hi;split at hi
 ·rename_i cs es ex ro ty bB ae fY fT gj;simp only [xf] at hi;obtain⟨⟨⟨⟨h1,h2⟩,h3⟩,h4⟩,h5⟩:=hi;obtain rfl:=xb h1;obtain rfl:=FK h2;obtain rfl:=FK h3;obtain rfl:=xb h4;obtain⟨k1,k2⟩:=Iy h hA h5;obtain⟨aB,e,fz,g1,g2,g3,g4,g5,g6,g7,g8⟩:=hb;refine⟨aB,e,fz,g1,g2,Ns,fun i v hv=> ?_,g5,fun hx=>Ns,g7,g8⟩;have gw:i<bB.length:=by rw[<-k1];exact(xe.1 hv).1
  grind [xc,Fb]
 ·rename_i tc es ex ro ty c ae fY fT gj;simp only [xf] at hi;obtain⟨⟨⟨⟨⟨⟨h1,h2⟩,h3⟩,h4⟩,h5⟩,h6⟩,h7⟩:=hi;obtain rfl:=xb h1;obtain rfl:=xb h4;obtain⟨aB,rows,g1,g2,g3,g4,g5,g6,g7⟩:=hb;exact⟨aB,rows,g1,g2,Ck h h7 g3,g4,g5,g6,fun i row j d a b=>by grind [h.z]⟩
 ·rename_i tc es ex ro ty c ae fY fT gj;simp only [xf] at hi;obtain⟨_,h7⟩:=hi;obtain⟨ae,ck,rows,g1,g2,g3⟩:=hb;exact⟨ae,ck,rows,g1,Ck h h7 g2,by rw[h.z];exact g3⟩
 ·rename_i ks tc es ex ro ty fU c ae fY fT gj;simp only [xf] at hi;obtain⟨⟨_,h6⟩,h7⟩:=hi;obtain rfl:=qS _ _ h6;obtain⟨ae,ck,rows,g1,g2,g3⟩:=hb;exact⟨ae,ck,rows,g1,Ck h h7 g2,by rw[h.z];exact g3⟩
 ·rename_i ks tc es ex ro ty fU c ae fY fT gj;simp only [xf] at hi;obtain⟨⟨⟨⟨⟨h1,_⟩,_⟩,h5⟩,h6⟩,h7⟩:=hi;obtain rfl:=xb h1;obtain rfl:=xb h5;obtain rfl:=qS _ _ h6;obtain⟨es2,ck,rows,td,g1,g2,g3,g4,g5⟩:=hb;cases td with
  |none=>exact⟨es2,ck,rows,none,g1,Ck h h7 g2,trivial,g4.of_eq h.z h.y,g5⟩
  |some p=>exact g3.elim
 ·rename_i ks tc es ex ro ty fU c ae fY fT gj;simp only [xf] at hi;obtain⟨⟨_,h6⟩,h7⟩:=hi;obtain rfl:=qS _ _ h6;obtain⟨ae,ck,rows,g1,g2,g3⟩:=hb;exact⟨ae,ck,rows,g1,Ck h h7 g2,by rw[h.z];exact g3⟩
 ·rename_i B tc tl ab0 es ex ro ty B' c lc aB ae fY fT gj;simp only [xf] at hi;obtain⟨⟨⟨⟨_,h6⟩,h7⟩,h8⟩,h9⟩:=hi;obtain⟨g0,lb,rows,left,seen,g1,g2,g3,g4,g5,g6⟩:=hb;obtain⟨c2,d,e1,e2,e3⟩:=tB h h7;obtain⟨c3,d',e4,e5,e6⟩:=tB h h8;subst e1;subst e4;have fJ:=e3.2.2 (.sl rows) g3;rw[<-fJ] at e2;have TB:=e6.2.2 (.sl left) g4;rw[<-TB] at e5;exact⟨g0,lb,rows,left,seen,g1,Jd h h6 g2,by show(cX.d c2).bind _=_;rw[e2];rfl,by show(cX.d c3).bind _=_;rw[e5];rfl,g5,by
   rcases g6 with g6|⟨Gh,i,row,p1,p2,p3⟩
   ·subst g6;unfold Lx at h9
    grind
   grind [aI3,id]⟩
 ·cases hi
theorem aq5(hi:tO G ρ aM A tb b=true):tb.still=b.still:=by
 unfold tO at hi;split at hi
 ·simp only [xf] at hi;exact FK hi.1.1.2
 ·simp only [xf] at hi;exact FK hi.1.1.1.1.2
 ·rfl
 ·rfl
 ·rfl
 ·rfl
 ·rfl
 ·cases hi
theorem ax8(h:m5 G ρ aM β cX)(hA:∀v v',aj β v v'->aj β (rB A v) v')(hi:tO G ρ aM A tb b=true)(hf:cX B=β B')(ho:cX.o B=β.o B')(lK:jA β B' b):jA cX B tb:=by
 unfold tO at hi;split at hi
 ·trivial
 ·rename_i tc es ex ro ty c ae fY fT gj;simp only [xf] at hi;obtain⟨⟨⟨⟨⟨⟨h1,h2⟩,h3⟩,h4⟩,h5⟩,h6⟩,h7⟩:=hi;obtain rfl:=xb h1;obtain⟨rows,g1,g2⟩:=lK;exact⟨rows,Ck h h7 g1,g2.imp (fun⟨x,y⟩=>⟨x,ho.trans y⟩) fun⟨l,cap,x,y,z⟩=>⟨l,cap,hf.trans x,ho.trans y,z⟩⟩
 ·trivial
 ·trivial
 ·trivial
 ·trivial
 ·trivial
 ·cases hi
theorem ax6(h:m5 G ρ aM β cX)(hA:∀v v',aj β v v'->aj β (rB A v) v')(hi:Gn aM tb=true)(ho:cX.o B=some (.slice none 0 0)):jA cX B tb:=by
 unfold Gn at hi;split at hi
 ·rw[xf] at hi;obtain⟨c2,d,e1,e2,e3⟩:=tB h hi.2;subst e1;have fJ:=e3.2.2 (.sl []) rfl;rw[<-fJ] at e2;exact⟨[],by show(cX.d c2).bind _=_;rw[e2];rfl,.inl ⟨rfl,ho⟩⟩
 ·cases hi
end
section
variable{G:Nat}
theorem MT{A:AW}:∀{hp:List aG} {r:Es},Pv G ρ aM A hp r=true->hp.length=r.length/\∀(j:Nat) (tb:aG) (x:Nat),hp[j]? =some tb->r[j]? =some x->(x=cG/\Gn aM tb=true)\/(x≠cG/\G<=x/\∃blk,A.get x=some blk/\tO G ρ aM A tb blk=true)
 |[],[],_=>⟨rfl,fun j tb x h=>by simp at h⟩
 |[],_::_,h=>by cases h
 |_::_,[],h=>by cases h
 |t::hp,y::r,h=>by
  have h':bs (bs (Nat.beq y cG) (Gn aM t) (Nat.ble G y&& (match A.get y with|some blk=>tO G ρ aM A t blk|none=>false))) (Pv G ρ aM A hp r) false=true:=h;rcases aC h' with⟨h1,h2⟩|⟨_,h2⟩
  ·obtain⟨k1,k2⟩:=MT h2;refine⟨by simp[k1],fun j tb x ha hb=> ?_⟩;cases j with
   |zero=>
    simp at ha hb;subst ha;subst hb;rcases aC h1 with⟨e1,e2⟩|⟨e1,e2⟩
    ·simp_all
    ·rw[xf] at e2;refine .inr ⟨FQ e1,xh e2.1,?_⟩
     grind
   |succ j=>grind
  ·cases h2
theorem U8{A:AW}:∀{L:Gy} {i:Nat},Qx A L i=true->∀(g:Nat) (x:Option aG),L[g]? =some x->A.get (i+g)=x
 |[],i,_,g,x,h=>by simp at h
 |y::L,i,hh,g,x,h=>by
  have h':bs (KX (A.get i) y) (Qx A L (Nat.succ i)) false=true:=hh;rcases aC h' with⟨h1,h2⟩|⟨_,h2⟩
  ·cases g with
   |zero=>simp at h;subst h;exact aO9 h1
   |succ g=>
    simp at h;have:=U8 h2 g x h;rw[show i+(g+1)=Nat.succ i+g by omega];exact this
  ·cases h2
theorem MS:∀{l:Es},nodupB l=true->∀(i j x:Nat),l[i]? =some x->l[j]? =some x->x≠cG->i=j
 |[],_,i,j,x,h,_,_=>by simp at h
 |y::l,hh,i,j,x,h,k,hx=>by
  have h':bs (bs (Nat.beq y cG) true (fb (fun z=>bs (Nat.beq y z) false true) l)) (nodupB l) false=true:=hh;rcases aC h' with⟨h1,h2⟩|⟨_,h2⟩
  ·have bo:∀m,x=y->l[m]? =some x->False:=fun m hxy hm=>by
    rcases aC h1 with⟨e1,_⟩|⟨_,e2⟩
    ·simp_all
    ·have:=oR _ l e2 x (xu hm);rw[hxy] at this;have e:Nat.beq y y=true:=NS
     rw[e] at this;cases this
   cases i with
   |zero=>
    cases j with
    |zero=>rfl
    |succ j=>simp at h k;exact(bo j h.symm k).elim
   |succ i=>
    cases j with
    |zero=>simp at h k;exact(bo i k.symm h).elim
    |succ j=>simp at h k;rw[MS h2 i j x h k hx]
  ·cases h2
theorem ap9{cY:ai}{cs:C3}{es:Nat}{ex ro:Bool}{ty:xN}(hs:(cs.all yD)=true)(hb:gB β l ⟨.cells cs,es,ex,ro,ty⟩ o):gB cY l ⟨.cells cs,es,ex,ro,ty⟩ o:=by
 obtain⟨aB,e,fz,g1,g2,g3,g4,g5,g6,g7,g8⟩:=hb;refine⟨aB,e,fz,g1,g2,g3,fun i v hv=> ?_,g5,g6,g7,g8⟩;obtain⟨v',e1,e2⟩:=g4 i v hv;have:=List.all_eq_true.1 hs v (xu hv);refine⟨v',e1,MW ?_ e2⟩;unfold yD at this;split at this<;>first|rfl|cases this
def o8(G:Nat)(ρ:Es)(β:ai)(δ:FM):ai where
 f:=fun B=>if B<G then β B else(match ρ[B - G]? with|some x=>if x=cG then none else β x|none=>none)
 z:=β.z
 d:=δ
 x:=β.x
 y:=β.y
 o:=fun B=>if B<G then none else(match ρ[B - G]? with|some x=>if x=cG then some (.slice none 0 0) else β.o x|none=>none)
theorem yh(G:Nat)(ρ:Es)(β:ai)(δ:FM)(B:Nat):(o8 G ρ β δ) B=if B<G then β B else(match ρ[B - G]? with|some x=>if x=cG then none else β x|none=>none):=rfl
theorem F3(G:Nat)(ρ:Es)(β:ai)(δ:FM)(B:Nat):(o8 G ρ β δ).o B=if B<G then none else(match ρ[B - G]? with|some x=>if x=cG then some (.slice none 0 0) else β.o x|none=>none):=rfl
theorem Xu(hd:∀(c:Nat) (s:xM),aM[c]? =some s->∃d,δ c=some d/\SD β s d):m5 G ρ aM β (o8 G ρ β δ):=
 ⟨fun B h=>by rw[yh,if_pos h],fun B x h hx hn=>⟨by rw[yh,if_neg MK,hx];grind,by rw[F3,if_neg MK,hx];grind⟩,
  fun B h hx=>⟨by rw[yh,if_neg MK,hx];grind,by rw[F3,if_neg MK,hx];grind⟩,fun B h hx=>by rw[yh,if_neg MK,hx],
  fun B v h=>by
   rw[F3] at h
   grind,rfl,rfl,rfl,hd⟩
end
def AK(L:Gy):Prop:=∀g,g<L.length->L[g]? =some none\/∃cs es,L[g]? =some (some ⟨.cells cs,es,false,true,jN⟩)/\(cs.all yD)=true
theorem x7(T:jV)(k:Nat)(L:Gy)(tape:List Node):(T.aw k L tape).next=L.length+T.hp.length:=by
 show bT (iR L (Al T.hp))=_;unfold Al;rw[eH,mQ,qc,xa,xm]
theorem yl{T:jV}(h:(T.aw k L tape).get B=some blk):(B<L.length/\L[B]? =some (some blk))\/(L.length<=B/\T.hp[B - L.length]? =some blk):=by
 have h1:=xW k _ B blk h;unfold Al at h1;rw[mQ,qc] at h1
 grind
theorem aG7(hL:AK L){T:jV}{fr:Fr}(hi:Ao L T ρ aM fr A=true)
 (inv:Inv w0 ⟨L.length,Q,LL⟩ β A w) {δ:FM} (hd:∀(c:Nat) (s:xM),aM[c]? =some s->∃d,δ c=some d/\SD β s d) {tape:List Node} (ht:∀nd∈tape,Q δ nd) (k:Nat):
 Inv w0 ⟨L.length,Q,LL⟩ (o8 L.length ρ β δ) (T.aw k L tape) w/\∀(K n:Nat) (tmps:KB),bU β n (fr.get J) tmps->bU (o8 L.length ρ β δ) n ((oJ K T.tm).get J) tmps:=by
 unfold Ao at hi;rw[eH] at hi;simp only [xf] at hi;obtain⟨⟨⟨sW,gw⟩,oD⟩,qJ⟩:=hi;have hI:=Xu (G:=L.length) (ρ:=ρ) hd;obtain⟨aE,vO⟩:=MT gw;have bV2:∀g,g<L.length->A.get g=(L[g]?).join:=fun g hg=>by
  have:=U8 oD g _ (xc hg)
  grind
 have kE:∀B l,L.length<=B->(o8 L.length ρ β δ) B=some l->∃x,ρ[B - L.length]? =some x/\x≠cG/\β x=some l:=fun B l hB h=>by
  cases hx:ρ[B - L.length]? with
  |none=>grind [hI.n]
  |some x=>
   by_cases hn:x=cG
   ·grind [hI.m]
   ·rw[(hI.l B x hB hx hn).1] at h;grind
 have ao:∀B x,L.length<=B->ρ[B - L.length]? =some x->x≠cG->∀tb,T.hp[B - L.length]? =some tb->L.length<=x/\∃blk,A.get x=some blk/\tO L.length ρ aM A tb blk=true:=fun B x hB hx hn tb htb=>by
  grind
 have jv:∀B x,L.length<=B->ρ[B - L.length]? =some x->x≠cG->L.length<=x:=fun B x hB hx hn=>by
  have hj:B - L.length<T.hp.length:=by rw[aE];exact(xe.1 hx).1
  exact(ao B x hB hx hn _ (xc hj)).1
 refine⟨⟨inv.below,fun B l h=> ?_,fun B h=> ?_,fun B l h=> ?_,fun B B' l l' h h' hb h1 h2=> ?_,fun B blk l h h'=> ?_,fun g hg=> ?_,inv.dB,fun B l blk hG h hk hs=> ?_,ht,fun B blk h=> ?_,fun B v h=> ?_,inv.lay,inv.xg,inv.jM,inv.zo,fun b hh hy=> ?_⟩,fun K n tmps hf=>⟨hf.1,fun t=> ?_⟩⟩
 ·rw[x7]
  grind
 ·rw[x7] at h;cases hq:(T.aw k L tape).get B with
  |none=>rfl
  |some blk=>
   rcases yl hq with⟨h1,_⟩|⟨_,h2⟩
   ·omega
   grind
 ·by_cases hB:B<L.length
  ·rw[hI.g B hB] at h;exact⟨(inv.loc B l h).1,.inl hB⟩
  ·obtain⟨x,hx,hn,h3⟩:=kE B l MK h;have:=jv B x MK hx hn;exact⟨(inv.loc x l h3).1,(inv.loc x l h3).2.elim (fun h=>absurd h Ns) .inr⟩
 ·obtain⟨b1,bX⟩:=Option.isSome_iff_exists.1 h1;obtain⟨b2,bP⟩:=Option.isSome_iff_exists.1 h2;rcases yl bX with⟨q1,q2⟩|⟨q1,q2⟩<;>rcases yl bP with⟨p1,p2⟩|⟨p1,p2⟩
  ·grind [hI.g,inv.inj]
  ·grind [hI.g,inv.inj]
  ·grind [hI.g,inv.inj]
  ·obtain⟨x,hx,hn,h3⟩:=kE B l q1 h;obtain⟨y,hy,fj,h4⟩:=kE B' l' p1 h';obtain⟨_,blk,p6,_⟩:=ao B x q1 hx hn _ q2;obtain⟨_,SC,Mt,_⟩:=ao B' y p1 hy fj _ p2;have e:=inv.inj x y l l' h3 h4 hb (by rw[p6];rfl) (by rw[Mt];rfl);subst e;have:=MS qJ _ _ _ hx hy hn;omega
 ·rcases yl h with⟨q1,q2⟩|⟨q1,q2⟩
  ·rw[hI.g B q1] at h';rcases hL B q1 with e1|⟨cs,es,e1,e2⟩<;>rw[q2] at e1
   ·cases e1
   cases e1;exact ap9 e2 (inv.cont B _ l Ns h')
  grind [ax7,inv.Ad,inv.cont]
 ·grind [inv.jn,hI.g]
 ·rcases yl hk with⟨q1,q2⟩|⟨q1,q2⟩
  ·grind
  ·obtain⟨x,hx,hn,h3⟩:=kE B l q1 h;obtain⟨qE,SC,p6,Mt⟩:=ao B x q1 hx hn _ q2;exact inv.sep x l SC qE h3 p6 (aq5 Mt▸hs)
 ·rcases yl h with⟨q1,q2⟩|⟨q1,q2⟩
  ·rcases hL B q1 with e1|⟨cs,es,e1,e2⟩<;>rw[q2] at e1
   ·cases e1
   cases e1;trivial
  ·have hj:B - L.length<ρ.length:=by rw[<-aE];exact(xe.1 q2).1
   have hx:=xc hj;rcases vO _ _ _ q2 hx with⟨e,BD⟩|⟨hn,cp8,SC,p6,Mt⟩
   ·rw[e] at hx;exact ax6 hI inv.Ad BD (hI.m B q1 hx).2
   ·obtain⟨f1,f2⟩:=hI.l B _ q1 hx hn
    grind [ax8,inv.Ad,inv.own]
 ·rw[x7,aE];exact(hI.og B v h).2
 ·obtain⟨y1,y2,y3,y4⟩:=inv.dP b hh hy;refine⟨y1,y2,y3,fun B l h ha=> ?_⟩;obtain⟨b1,bX⟩:=Option.isSome_iff_exists.1 ha;rcases yl bX with⟨q1,q2⟩|⟨q1,q2⟩
  ·grind [hI.g]
  grind
 ·rcases OM K T.tm t with e|⟨tv,h1,e⟩
  ·rw[e];exact .jT _
  ·rw[e];exact Fb hI inv.Ad (oR _ _ sW _ h1) (hf.2 t)
def D0(G:Nat)(A:AW):Option AW:=
 match A.tape with
 |rz::nd::r=>match rz.k,rz.args with
  | .own 4,[.map (some B)]=>(match A.get B,nd.k with
   |some ⟨.gA fU c (some (B2,kl)),es,ex,false,ty⟩,.Cw ks=>(match A.get B2 with
    |some ⟨.own c2,es2,_,false,pQ⟩=>bs (mf ks fU&&ri nd.args [c,.agg ⟨kl⟩,c2]&&fB nd.res&&Nat.ble G B&&Nat.ble G B2&&Nat.beq es es2&&Nat.beq ty pQ) (some (((A.pop r).put B2 none).put B (some ⟨.gA fU nd.res none,es,ex,false,ty⟩))) none
    |_=>none)
   |some ⟨.gA ks c none,es,ex,false,ty⟩,.Cz=>bs (ri nd.args [c]&&fB nd.res&&Nat.ble G B) (some ((A.pop r).put B (some ⟨.rk ks nd.res,es,ex,false,ty⟩))) none
   |_,_=>none)
  |_,_=>none
 |_=>none
def DZ(G n:Nat):AW->AW:=Nat.rec (motive:=fun _=>AW->AW) (fun A=>A) (fun _ ih A=>match D0 G A with|some A1=>ih A1|none=>A) n
theorem lP.drop{b es:Nat}{ty:xN}{ks:JI}{td:Option (Nat×List D)}{rows:Ca}{jU:FP}(h:lP β b es ty ks td rows jU):lP β b es ty ks none rows jU:=
 ⟨h.len,fun i row e a1 a2=>by
  grind [row,id,h.row],h.inj,h.key⟩
theorem Vv(r:Di):∀l,List.Perm (yG r l) (r::l)
 |[]=> .refl _
 |x::t=>by
  unfold yG;split
  ·exact .refl _
  ·exact((Vv r t).cons x).trans (.swap r x t)
theorem VE:∀l,List.Perm (sD l) l
 |[]=> .refl _
 |r::l=>(Vv r _).trans ((VE l).cons r)
def uN(β:ai)(ob:Nat):ai:={β with
 z:=fun b=>match β.y b with|some h=>if h.own=ob then some h.cs else β.z b|none=>β.z b
 y:=fun b=>match β.y b with|some h=>if h.own=ob then none else some h|none=>none}
section
theorem ZF(h:Inv w0 G β A w)(ob:Nat):(∀b c,β.z b=some c->(uN β ob).z b=some c)/\(∀b c,(uN β ob).z b=some c->β.z b=some c\/∃hh,β.y b=some hh/\hh.own=ob/\c=hh.cs):=by
 refine⟨fun b c e=> ?_,fun b c e=> ?_⟩
 ·show(match β.y b with|some h=>if h.own=ob then some h.cs else β.z b|none=>β.z b)=_;cases hy:β.y b with
  |none=>exact e
  |some hh=>rw[(h.dP b hh hy).2.1] at e;cases e
 ·have e':(match β.y b with|some h=>if h.own=ob then some h.cs else β.z b|none=>β.z b)=some c:=e
  grind
theorem ZG(ob b:Nat)(hh:HY):(uN β ob).y b=some hh↔β.y b=some hh/\hh.own≠ob:=by
 show(match β.y b with|some h=>if h.own=ob then none else some h|none=>none)=some hh↔_
 grind
theorem Inv.bo2(h:Inv w0 G β A w){k blk':aG}(hg:A.get B=some k)(hB:β B=some l)(hG:G.n<=B)(hz0:β.z l.b=none)(hb:gB (uN β l.b) l blk' w.heap[l.b]?)(hp:vB blk'):Inv w0 G (uN β l.b) (A.put B (some blk')) w/\∀n,β.grow (uN β l.b) n:=by
 obtain⟨z1,z2⟩:=ZF h l.b;have aN:β.le (uN β l.b):=⟨fun _ _ e=>e,z1,fun _ _ e=>e,rfl,rfl⟩;have lF:∀C,((A.put B (some blk')).get C).isSome=true->(A.get C).isSome=true:=fun C hs=>by
  grind [A.gd]
 refine⟨⟨h.below,h.ft,fun C hC=> ?_,h.loc,fun C C' lc pV e e' eG ha kR=>h.inj C C' lc pV e e' eG (lF C ha) (lF C' kR),fun C kc lc hk e=> ?_,h.jn,fun b c e=> ?_,fun C lc kc EC e hk hs=> ?_,h.dX,fun C kc hk=> ?_,h.iG,h.lay,h.xg,h.jM,fun b c e=> ?_,fun b hh hy=> ?_⟩,fun n=>⟨fun _ _=>rfl,z1,fun _ _=>rfl,rfl,rfl⟩⟩
 ·have My:A.next<=C:=hC
  grind [A.gd,h.ft,h.du]
 ·rcases A.gd B (some blk') C with⟨e2,e3⟩|⟨e2,_⟩|⟨e2,bo⟩
  ·subst e3;rw[e2] at hk;cases hk;have e':β C=some lc:=e
   grind
  ·grind
  ·rw[e2] at hk;refine(h.cont C kc lc hk e).mono aN fun c' h' e1 e3=>(ZG l.b c' h').2 ⟨e1,fun e4=> ?_⟩
   exact bo (h.inj C B lc l e hB (e3.symm.trans e4) (by rw[hk];rfl) (by rw[hg];rfl))
 ·rcases z2 b c e with e|⟨hh,e2,_,rfl⟩
  ·exact h.dB b c e
  ·exact⟨_,_,(h.dP b hh e2).1⟩
 ·cases hz:(uN β l.b).z lc.b with
  |none=>rfl
  |some cc=>
   exfalso;rcases z2 _ _ hz with e2|⟨hh,e2,_,_⟩
   ·rcases A.gd B (some blk') C with⟨e3,e4⟩|⟨e3,_⟩|⟨e3,_⟩
    ·have e':β C=some lc:=e
     grind
    ·grind
    ·rw[e3] at hk;rw[h.sep C lc kc EC e hk hs] at e2;cases e2
   ·exact(h.dP _ hh e2).2.2.2 C lc e (lF C (by rw[hk];rfl)) rfl
 ·rcases A.gd B (some blk') C with⟨e2,e3⟩|⟨e2,_⟩|⟨e2,_⟩
  ·grind [hk,hp.ok]
  ·grind
  ·rw[e2] at hk;exact(h.own C kc hk).mono aN
 ·rcases z2 b c e with e|⟨hh,e,_,_⟩
  ·exact h.zo b c e
  ·exact .inr (h.dP b hh e).2.2.1
 ·obtain⟨e1,e2⟩:=(ZG l.b b hh).1 hy;obtain⟨q1,q2,q3,q4⟩:=h.dP b hh e1;refine⟨q1,?_,q3,fun C lc e ha=>q4 C lc e (lF C ha)⟩;cases hz:(uN β l.b).z b with
  |none=>rfl
  |some cc=>
   grind
end
section
variable(ok:E.Ok P)
include ok in
theorem aU6(h:D0 E.G.n A=some A')(inv:Inv w0 E.G β A w):∃β',Inv w0 E.G β' A' w/\(∀n,β.grow β' n)/\A'.next=A.next:=by
 unfold D0 at h;split at h;rotate_left
 ·cases h
 rename_i rz nd rt ht;split at h;rotate_left
 ·cases h
 rename_i B lq TH;have hq:bY β.d nd:=ok.q _ _ (inv.dX nd Ns);have i2:=inv.pop (r:=rt) (fun x hx=>Ns);split at h
 ·rename_i fU c B2 kl es ex ty ks hg eN;split at h;rotate_left
  ·cases h
  rename_i c2 es2 wJ pQ gx;replace h:=aC h;rcases h with⟨hb,h⟩|⟨_,h⟩;rotate_left
  ·cases h
  cases h;simp only [xf] at hb;obtain⟨⟨⟨⟨⟨⟨b1,b2⟩,b3⟩,b4⟩,b5⟩,b6⟩,b7⟩:=hb;obtain rfl:=qS _ _ b1;have ez:=(rM _ _ b2);obtain⟨cy,mq⟩:=rG b3;have hG:=xh b4;have TL:=xh b5;obtain rfl:=xb b6;obtain rfl:=xb b7;have bo:B2≠B:=fun e=>Ns
  unfold bY at hq;rw[eN] at hq;obtain⟨ds,dd,q1,q2,q3⟩:=hq;rw[ez] at q1;rw[mq] at q2⊢;obtain⟨q4,q5⟩:=jO q2;obtain⟨dm,dk,dv,rfl,e1,e2,e3⟩:=IC q1;obtain⟨kd,Eo,hdk⟩:=xp.1 (show(aH (aX β.d) kl).map D.agg=_ from e2);subst hdk;obtain⟨bU6,qE,pX⟩:=inv.own B2 _ gx;obtain⟨v',Ta⟩:∃v',β.o B2=some v':=by
   grind
  cases j5:β B with
  |none=>
   refine⟨β,?_,fun n=>ai.dg _ _,rfl⟩;exact(i2.kill B2).Gg (by rw[M5 bo];exact hg) j5 trivial
  |some l=>
  obtain⟨β',rs,i3,g6,fJ,DN,L8,hyn⟩:=i2.XB l.b gx TL Ta;rw[lE fJ] at e3;cases e3;obtain⟨ae,ck,rows,td,g1,g2,pj,g3,g4,g5⟩:=inv.cont B _ l hg j5;rw[lE g2] at e1;cases e1;have bw3:td=some (B2,kd):=by
   cases td with
   |none=>exact pj.elim
   |some p=>
    obtain⟨x,y⟩:=p;obtain⟨h1,h2⟩:=pj
    grind
  subst bw3;have aJ:M' ks (.sl rows) (.agg kd) (.sl rs)=some dd:=q3;unfold M' at aJ;simp only at aJ;split at aJ;rotate_left
  ·cases aJ
  rename_i jF;obtain⟨us,bH⟩:=Option.isSome_iff_exists.1 jF;have dK:β' B=some l:=((g6 A.next).f B (inv.ft B l j5)).trans j5;have rA:((A.pop rt).put B2 none).get B=some ⟨.gA ks c (some (B2,kl)),es,ex,false,ty⟩:=by rw[M5 bo];exact hg
  have ng:∀{dZ:Ca},lP β' l.b es ty ks none dZ ae->dd= .sl dZ->∃β',Inv w0 E.G β' (((A.pop rt).put B2 none).put B (some ⟨.gA ks (.chan (some (cy+1))) none,es,ex,false,ty⟩)) w/\(∀n,β.grow β' n)/\(((A.pop rt).put B2 none).put B (some ⟨.gA ks (.chan (some (cy+1))) none,es,ex,false,ty⟩)).next=A.next:=fun{dZ} hm hd=>
   ⟨β',i3.write B l _ _ rA dK hG ⟨rfl,rfl,rfl,xk _,fun _ _ _=>rfl⟩ rfl ⟨ae,ck,dZ,none,g1,by rw[(g6 A.next).d];show(β.d cy).bind _=_;grind,trivial,hm,g4,g5⟩,g6,rfl⟩
  cases dT:cT kd rows with
  |none=>
   rw[dT] at aJ;cases aJ;exact ng (g3.drop.mono (g6 A.next).z (fun B v h=>(i2.gy (g6 _)).o B v h) (fun c h e1 _=>L8 c h e1)) rfl
  |some j0=>
   rw[dT] at aJ;simp only at aJ;split at aJ;rotate_left
   ·cases aJ
   rename_i k0 gH;cases aJ;obtain⟨d0,yu⟩:=IX bH dT (fun i r hi=>by
    have aL:i<ae.length:=by rw[<-g3.len];exact(xe.1 hi).1
    obtain⟨ds,vs,d,x,hf,_⟩:=g3.row i r _ hi (xc aL)
    grind)
   rw[gH] at yu;cases yu;have jJ:j0<rows.length:=(xe.1 gH).1;have fH:j0<ae.length:=by rw[<-g3.len];exact jJ
   have cw:ae[j0]? =some ae[j0]:=xc fH;obtain⟨wM,ul,d0,bE,oG,pH,Et⟩:=g3.row j0 _ _ gH cw;cases bE;have hval:ae[j0].val=v':=by
    rcases Et with⟨_,h⟩|⟨_,h,_⟩
    ·grind
    ·cases h
   have kE:∀(i:Nat) (r:Di),i≠j0->(rows.set j0 [.agg kd,.sl rs])[i]? =some r->rows[i]? =some r:=fun i r hi h1=>Ns
   exact ng (g3.drop.lU (β':=β') (j:=j0) (kd:=kd) (d:= .sl rs) (ej:=ae[j0]) (by simp[g3.len]) (fun i r e hi h1 h2=>⟨kE i r hi h1,e,h2,rfl,rfl⟩) (List.getElem?_set_self jJ) cw oG pH (.inr ⟨rs,rfl,Ns⟩) (fun B k e=>by cases e) (fun i r hi h1 he=>hi (g3.key i j0 r _ (kE i r hi h1) gH (by rw[he];rfl)))
    (fun i r Bq e hi h1 h2 h3 hq=>hq.mono (g6 A.next).z (fun c h e1 _=>L8 c h e1)) (fun _ i r e c hi h1 h2 h3 jw bM=>by
     obtain⟨ds,vs,d,x1,_,_,x4⟩:=g3.row i r e h1 h3;rcases x4 with⟨p,_⟩|⟨Bq,_,q⟩
     ·grind
     ·rcases q with⟨_,ov⟩|⟨c',off,cap,hh,ov,hy1,_⟩
      ·rw[ov] at jw;cases jw
      ·rw[ov] at jw;cases jw
       grind)) rfl
 ·rename_i ks c es ex ty hg eN;replace h:=aC h;rcases h with⟨hb,h⟩|⟨_,h⟩;rotate_left
  ·cases h
  cases h;simp only [xf] at hb;obtain⟨⟨b2,b3⟩,b4⟩:=hb;have ez:=(rM _ _ b2);obtain⟨cy,mq⟩:=rG b3;have hG:=xh b4;unfold bY at hq;rw[eN] at hq;obtain⟨ds,dd,q1,q2,q3⟩:=hq;rw[ez] at q1;rw[mq] at q2⊢;obtain⟨q4,q5⟩:=jO q2;obtain⟨dm,rfl,e1⟩:=kU q1;cases j5:β B with
  |none=>exact⟨β,i2.Gg hg j5 trivial,fun n=>ai.dg _ _,rfl⟩
  |some l=>
  obtain⟨ae,ck,rows,td,g1,g2,pj,g3,g4,g5⟩:=inv.cont B _ l hg j5;rw[lE g2] at e1;cases e1;have aJ:Nc (.sl rows)=some dd:=q3;unfold Nc at aJ;simp only at aJ;split at aJ;rotate_left
  ·cases aJ
  rename_i fS;cases aJ;rw[List.all_eq_true] at fS;obtain⟨z1,z2⟩:=ZF inv l.b;obtain⟨i3,g6⟩:=i2.bo2 (blk':=⟨.rk ks (.chan (some (cy+1))),es,ex,false,ty⟩) hg j5 hG (inv.sep B l _ hG j5 hg rfl) (by
   refine⟨ae,ck,sD rows,g1,by show(β.d cy).bind _=_;rw[q4];rfl,rows,VE rows,⟨g3.len,fun i row e a1 a2=> ?_⟩,g3.key⟩;obtain⟨ds,vs,d,x1,x2,x3,x4⟩:=g3.row i row e a1 a2;have fW:=fS row (xu a1);rcases x4 with⟨p,_⟩|⟨rs,p,q⟩
   ·rw[x1,p] at fW;cases fW
   ·refine⟨ds,vs,d,x1,x2,x3,by rw[p];rfl,?_⟩;rw[p];rcases q with⟨rfl,hv⟩|⟨cc,off,cap,hh,hv,hy,ho,Md,h1,h2,h3,h4⟩
    ·rw[hv];exact .qC
    ·rw[hv];by_cases Me:rs=[]
     ·subst Me;exact .m8 _ _
     ·have hz:(uN β l.b).z cc=some hh.cs:=by
       show(match β.y cc with|some h=>if h.own=l.b then some h.cs else β.z cc|none=>β.z cc)=_;rw[hy];exact if_pos ho
      refine .sl rs es cc off cap hh.cs hz Me h3 h1 h2 fun i row j d v a b cx=> ?_
      obtain⟨v2,y1,y2⟩:=h4 i row j d a b
      grind [y2.mono]) (by intro c h;cases h)
  exact⟨_,i3,g6,rfl⟩
 ·cases h
include ok in
theorem OY{w0 w:World}:∀(n:Nat) {A:AW} {β:ai},Inv w0 E.G β A w->∃β',Inv w0 E.G β' (DZ E.G.n n A) w/\(∀m,β.grow β' m)/\(DZ E.G.n n A).next=A.next
 |0,A,β,inv=>⟨β,inv,fun _=>ai.dg _ _,rfl⟩
 |n+1,A,β,inv=>by
  show∃β',Inv w0 E.G β' (match D0 E.G.n A with|some A1=>DZ E.G.n n A1|none=>A) w/\_/\(match D0 E.G.n A with|some A1=>DZ E.G.n n A1|none=>A).next=_;cases h:D0 E.G.n A with
  |none=>exact⟨β,inv,fun _=>ai.dg _ _,rfl⟩
  |some A1=>
   obtain⟨aK,i1,g1,n1⟩:=aU6 ok h inv;obtain⟨cY,i2,g2,n2⟩:=OY n i1;exact⟨cY,i2,fun m=>ai.iz (g1 m) (g2 m) (xk _),n2.trans n1⟩
end
structure ia where
 args:C3
 hp:List aG
 nob:Nat
 rv:xM
 hp':List aG
def m4(hp:List aG):jV:=⟨[],hp⟩
def G0(L:Gy)(LL:World->Prop):GP:=⟨L.length,fun _ _=>True,LL⟩
def am0(P:Program)(w0:World)(G:GP)(k:Nat)(L:Gy)(β:ai)(b:Frame)(cs:List Frame)(m0:Machine)(sg:ia)(ah:Di):Prop:=
 ∃(a':Act) (w':World) (v7:List Item) (v:xM) (β':ai) (fn:Func),Steps P m0 (lone {b.atR a' v7 with mode:= .returning} cs w')/\a'.defers=[]/\P.funcs[b.fn]? =some fn/\(results fn a'.tmps).run P w'= .ok v w'/\
  Inv w0 G β' ((m4 sg.hp').aw k L []) w'/\aj β' sg.rv v/\(∀B,B<L.length+sg.nob->β' B=β B/\(L.length<=B->β'.o B=β.o B))/\(∀b c,β.z b=some c->β'.z b=some c)/\(∀(c:Nat) (d:D),ah[c]? =some d->β'.d c=some d)/\β'.x=β.x
def uh(P:Program)(E:az)(f:FuncId)(n K k:Nat)(L:Gy)(sg:ia)(td:List Item)(T:jV)(ds ah:Di):Prop:=
 ∀(w0 w:World) (β:ai) (b:Frame) (cs:List Frame) (a:Act),b.fn=f->b.roundOf=none->a.defers=[]->Inv w0 E.G β (T.aw k L []) w->bU β n ((oJ K T.tm).get J) a.tmps->β.d=(fun c=>ds[c]?)->
  am0 P w0 E.G k L β b cs (lone (b.atR a td) cs w) sg ah
structure ai.v9 (β β':ai):Prop where
 f:∀B l,β B=some l->β' B=some l
 z:∀b c,β.z b=some c->β'.z b=some c
 o:∀B v,β.o B=some v->β'.o B=some v
 d:∀(c:Nat) (d:D),β.d c=some d->β'.d c=some d
theorem mO(h:∀(c:Nat) (d:D),δ c=some d->lh c=some d){v:xM}(hv:aX δ v=some d):aX lh v=some d:=by
 unfold aX at hv;split at hv
 ·obtain⟨x,hx,h2⟩:=xr.1 hv;show(lh _).bind _=_
  grind
 all_goals first|exact hv|cases hv
theorem aj.km(hb:β.v9 β'){v:xM}(h:aj β v v'):aj β' v v':=by
 induction h with
 |jT v=>exact .jT v
 |bool b=>exact .bool b
 |int k n=>exact .int k n
 |string s=>exact .string s
 |tW=>exact .tW
 |sym c d v h hc hr=>exact .sym c d v (hb.d _ _ h) hc (hr.mono hb.z)
 |own B c rows a cap h ha hd=>exact .own B c rows a cap (hb.o _ _ h) (ha.imp id fun⟨l,x,y⟩=>⟨l,hb.f _ _ x,y⟩) (hb.d _ _ hd)
 |qv B es off m l iv k h hi=>exact .qv B es off m l iv k (hb.f _ _ h) (mO hb.d hi)
 |raw B n cap l h hn hs=>exact .raw B n cap l (hb.f _ _ h) hn (hb.o _ _ hs)
 |part B off n m l iv k h hi hm=>exact .part B off n m l iv k (hb.f _ _ h) (mO hb.d hi) hm
 |ptr B o l h=>exact .ptr B o l (hb.f _ _ h)
 |yb=>exact .yb
 |slice B o n c c' l h hn hc he=>exact .slice B o n c c' l (hb.f _ _ h) hn hc he
 |empty o a' c'=>exact .empty o a' c'
 |AX=>exact .AX
 |map B l h=>exact .map B l (hb.f _ _ h)
 |nilFunc=>exact .nilFunc
 |nilIface=>exact .nilIface
 |func f p p' q q' hp hq _ _ i1 i2=>exact .func f p p' q q' hp hq i1 i2
 |yield B l h=>exact .yield B l (hb.f _ _ h)
 |agg p p' hp _ i1=>exact .agg p p' hp i1
 |tuple p p' hp _ i1=>exact .tuple p p' hp i1
theorem bU.km(hb:β.v9 β'){g:Gt}{t:KB}(h:bU β n g t):bU β' n g t:=⟨h.1,fun i=>(h.2 i).km hb⟩
theorem aZ.km(hb:β.v9 β'){l l':C3}(h:aZ β l l'):aZ β' l l':=⟨h.1,fun i v v' a b=>(h.2 i v v' a b).km hb⟩
def Pu(blk:aG):Prop:=∃ks c tk,blk.obj= .gA ks c tk
theorem M8(h:∀(c:Nat) (d:D),δ c=some d->lh c=some d){v:xM}(hv:bR δ v=some d):bR lh v=some d:=by
 unfold bR at*
 grind [xp,rJ,mO]
theorem MZ(h:∀(c:Nat) (d:D),δ c=some d->lh c=some d){v:xM}(hv:eE δ v=some d):eE lh v=some d:=by
 unfold eE at*
 grind [mO]
theorem U2(h:∀(c:Nat) (d:D),δ c=some d->lh c=some d){v:xM}(hv:iF δ v=some d):iF lh v=some d:=by
 unfold iF at*;split at hv
 ·obtain⟨ds,h1,rfl⟩:=xp.1 hv
  grind [rJ,MZ]
 ·exact MZ h hv
theorem gB.km(hb:β.v9 β')(h:gB β l blk o)(hy:Pu blk->∀c h,β.y c=some h->h.own=l.b->β'.y c=some h:=by exact fun _ _ _ h _=>h):gB β' l blk o:=by
 unfold gB at*;cases hk:blk.obj with
 |cells cs=>
  simp only [hk] at h⊢;obtain⟨aB,e,fz,h1,h2,h3,h4,h5,h6,h7⟩:=h;exact⟨aB,e,fz,h1,h2,h3,fun i v hv=>(h4 i v hv).imp fun v' ⟨a,b⟩=>⟨a,b.km hb⟩,h5,h6,h7⟩
 |loop bz fr n ps a b=>
  simp only [hk] at h⊢;obtain⟨r,h1,h2,h3,h4,h5,h6,h7,h8⟩:=h;exact⟨r,h1,h2,h3,h4,h5,h6,h7,fun t=>(h8 t).km hb⟩
 |wO=>
  grind
 |own c=>
  simp only [hk] at h⊢;obtain⟨aB,rows,h1,h2,h3,h4,h5,h6,h7⟩:=h;exact⟨aB,rows,h1,h2,mO hb.d h3,h4,h5,h6,fun i row j d a b=>(h7 i row j d a b).imp fun v ⟨x,y⟩=>⟨x,y.mono hb.z⟩⟩
 |maps c=>
  simp only [hk] at h⊢;obtain⟨ae,ck,rows,h1,h2,h3⟩:=h
  grind [mO,hb.d,h3.mono,hb.z]
 |jC ks c=>
  simp only [hk] at h⊢;obtain⟨ae,ck,rows,h1,h2,h3,h4⟩:=h
  grind [mO,hb.d,h3.mono,hb.z]
 |gA ks c tk=>
  simp only [hk] at h⊢;obtain⟨ae,ck,rows,td,h1,h2,h3,h4,h5⟩:=h;exact⟨ae,ck,rows,td,h1,mO hb.d h2,h3.mono (fun v d=>mO hb.d),h4.mono hb.z hb.o (hy ⟨ks,c,tk,hk⟩),h5⟩
 |rk ks c=>
  simp only [hk] at h⊢;obtain⟨ae,ck,rows,h1,h2,iC,h3,h4,h5⟩:=h;exact⟨ae,ck,rows,h1,mO hb.d h2,iC,h3,h4.mono hb.z,h5⟩
 |pG B c lc aB=>
  simp only [hk] at h⊢;obtain⟨h0,lb,rows,left,seen,h1,h2,h3,h4,h5,h6⟩:=h;exact⟨h0,lb,rows,left,seen,h1,hb.f _ _ h2,mO hb.d h3,mO hb.d h4,h5,h6.imp id fun⟨Gh,i,row,p,q,s⟩=>⟨Gh,i,row,p,q,rJ (fun v d=>U2 hb.d) s⟩⟩
 |An B c lc fin=>
  simp only [hk] at h⊢;obtain⟨h0,lb,rows,left,seen,h1,h2,h3,h4⟩:=h;exact⟨h0,lb,rows,left,seen,hb.f _ _ h1,mO hb.d h2,mO hb.d h3,h4⟩
theorem jA.km(hb:β.v9 β')(h:jA β B blk):jA β' B blk:=by
 grind [jA,mO,hb.d,hb.o,hb.f]
theorem Inv.LX(h:Inv w0 G β A w)(hd:∀(c:Nat) (d:D),β.d c=some d->δ c=some d)(hr:∀nd∈r,Q δ nd):Inv w0 ⟨G.n,Q,G.L⟩ {β with d:=δ} (A.pop r) w/\β.v9 {β with d:=δ}:=by
 have hb:β.v9 {β with d:=δ}:=⟨fun _ _ h=>h,fun _ _ h=>h,fun _ _ h=>h,hd⟩;exact⟨⟨h.below,h.ft,h.du,h.loc,h.inj,fun B blk l a b=>(h.cont B blk l a b).km hb,h.jn,h.dB,h.sep,hr,fun B blk a=>(h.own B blk a).km hb,h.iG,h.lay,h.xg,h.jM,h.zo,h.dP⟩,hb⟩
def LC(n:Nat)(β:ai):XZ:=⟨fun b=>∃B l,n<=B/\β B=some l/\l.b=b,β.z⟩
theorem Inv.reX(h:Inv w0 G β A w)(hL:G.L w)(jh:∀B blk,A.get B=some blk-> ¬Pu blk):Inv w G {β with x:=LC G.n β,y:=fun _=>none} A w/\β.v9 {β with x:=LC G.n β,y:=fun _=>none}:=by
 have hb:β.v9 {β with x:=LC G.n β,y:=fun _=>none}:=⟨fun _ _ h=>h,fun _ _ h=>h,fun _ _ h=>h,fun _ _ h=>h⟩;refine⟨⟨nG.refl _ _,h.ft,h.du,fun B l e=>⟨(h.loc B l e).1,?_⟩,h.inj,fun B blk l a b=>(h.cont B blk l a b).km hb (fun h=>absurd h (jh B blk a)),h.jn,h.dB,h.sep,h.dX,fun B blk a=>(h.own B blk a).km hb,h.iG,hL,fun b ⟨B,l,e1,e2,e3⟩=> ?_,xH h.jM h.below.size,fun b c e=> .inl e,fun b hh hy=>by cases hy⟩,hb⟩
 ·by_cases hB:B<G.n
  ·exact .inl hB
  ·exact .inr (.inr ⟨B,l,Nat.le_of_not_lt hB,e,rfl⟩)
 ·rcases(h.loc B l e2).2 with h1|h1|h1
  ·grind
  ·grind [xH,h.jM]
  ·rw[<-e3];exact h.xg _ h1
def Ks(nob g:Nat)(ρ:Es):Bool:=Nat.rec (motive:=fun _=>Bool) true (fun i ih=>bs (match dM ρ i with|some x=>bs (Nat.beq x cG) false (Nat.beq x (Nat.add g i))|none=>false) ih false) nob
theorem M3{g:Nat}{ρ:Es}:∀{nob:Nat},Ks nob g ρ=true->∀i,i<nob->ρ[i]? =some (g+i)/\g+i≠cG
 |0,_,i,h=>MK
 |n+1,h,i,hi=>by
  have h':bs (match dM ρ n with|some x=>bs (Nat.beq x cG) false (Nat.beq x (Nat.add g n))|none=>false) (Ks n g ρ) false=true:=h;rcases aC h' with⟨h1,h2⟩|⟨_,h2⟩
  ·rcases Nat.lt_succ_iff_lt_or_eq.1 hi with h3|rfl
   ·exact M3 h2 i h3
   ·rw[gg] at h1;split at h1
    ·rename_i x hx;rcases aC h1 with⟨_,h1⟩|⟨h3,h1⟩
     ·cases h1
     grind [xb,FQ]
    ·cases h1
  ·cases h2
theorem aG6{v:xM}(h:aX δ v=some d):lI v=true:=by
 unfold aX at h;split at h<;>first|rfl|cases h
theorem aR6{G:Nat}{v u:xM}(h:lL G n v A=some (u,A'))(hd:lI v=true):u=v:=by
 cases n with
 |zero=>
  have h':bs (lI v) (some (v,A)) none=some (u,A'):=h;rw[hd] at h';cases h';rfl
 |succ n=>
  have h':bs (lI v) (some (v,A)) (DU G (lL G n) v A)=some (u,A'):=h;rw[hd] at h';cases h';rfl
theorem XE{G n:Nat}:∀{l us:C3} {A A':AW},nL (lL G n) l A=some (us,A')->∀(c:Nat) (s u:xM),l[c]? =some s->us[c]? =some u->lI s=true->u=s
 |[],us,A,A',h,c,s,u,hs,_,_=>by simp at hs
 |v::l,us,A,A',h,c,s,u,hs,hu,hd=>by
  have h':(match lL G n v A with|some (u,A1)=>(match nL (lL G n) l A1 with|some (us,A2)=>some (u::us,A2)|none=>none)|none=>none)=some (us,A'):=h;split at h'
  ·rename_i u1 A1 h1;split at h'
   ·rename_i gC A2 h2;cases h';cases c with
    |zero=>simp at hs hu;subst hs;subst hu;exact aR6 h1 hd
    |succ c=>simp at hs hu;exact XE h2 c s u hs hu hd
   ·cases h'
  ·cases h'
theorem OK{w0 w:World}{ih:xM->AW->Im}{G:GP}(eA:∀v A u A' β,ih v A=some (u,A')->Inv w0 G β A w->Up w0 w G β A v u A'):∀(l:C3) (A:AW) (us:C3) (A':AW) (β:ai),nL ih l A=some (us,A')->Inv w0 G β A w->
 ∃β',Inv w0 G β' A' w/\β.grow β' A.next/\A'.next=A.next/\us.length=l.length/\∀eQ,β'.grow eQ A.next->∀(i:Nat) (v u v':xM),l[i]? =some v->us[i]? =some u->aj eQ v v'->aj eQ u v'
 |[],A,us,A',β,h,inv=>by
  cases h;exact⟨β,inv,ai.dg _ _,rfl,rfl,fun _ _ i v u v' h=>by simp at h⟩
 |v::l,A,us,A',β,h,inv=>by
  have h':(match ih v A with|some (u,A1)=>(match nL ih l A1 with|some (us,A2)=>some (u::us,A2)|none=>none)|none=>none)=some (us,A'):=h;split at h'
  ·rename_i u A1 h1;split at h'
   ·rename_i gC A2 h2;cases h';obtain⟨aK,i1,g1,n1,f1⟩:=eA v A u A1 β h1 inv;obtain⟨cY,i2,g2,n2,e2,f2⟩:=OK eA l A1 gC A' aK h2 i1;rw[n1] at g2 f2;refine⟨cY,i2,ai.iz g1 g2 (xk _),n2.trans n1,by simp[e2],fun eQ hg i a b v' ha hb hv=> ?_⟩;cases i with
    |zero=>simp at ha hb;subst ha;subst hb;exact f1 eQ (ai.iz g2 hg (xk _)) v' hv
    |succ i=>grind
   ·cases h'
  ·cases h'
def FZ:Nat:=8
def vP(L:Gy)(T:jV)(nob:Nat)(ρ:Es)(aM us:C3):KU (List Item):=fun td fr A=>
 match nL (lL (bT L) FZ) aM (DZ (bT L) FZ A) with
 |some (iJ,A')=>bs (nI us iJ&&Ao L T ρ aM fr A'&&Ks nob (bT L) ρ) (some [td]) none
 |none=>none
def Qn(G:Nat)(ρ:Es)(aM:C3)(A:AW)(tv v:xM):Bool:=
 match tv with
 | .tuple ⟨l⟩=>(match v with| .tuple ⟨l'⟩=>F4 G ρ aM A l l'|_=>false)
 |tv=>Ap G ρ aM A tv v
def RS(E:az)(rs:List ResultVar)(L:Gy)(sg:ia)(ρ:Es)(aM us:C3):Fr->AW->MJ:=fun fr A=>
 match GO E fr A rs with
 |some v=>(match nL (lL (bT L) FZ) aM (DZ (bT L) FZ A) with
  |some (iJ,A')=>bs (nI us iJ&&Ao L (m4 sg.hp') ρ aM fr A'&&Ks sg.nob (bT L) ρ&&Qn (bT L) ρ aM A' sg.rv v) (some [[]]) none
  |none=>none)
 |none=>none
def Zb:Fr->AW->MJ:=fun _ _=>none
def Zc:KU (List Item):=fun _ _ _=>none
section
variable{sq:Cf}(ok:E.Ok P)(aU:E.Seq P sq)(hG:E.G=⟨L.length,Q,LL⟩)(hL:AK L)
def ai.den(β:ai)(δ:FM):ai:={β with d:=δ}
include ok hG hL in
theorem OR{us:C3}{ds1:Di}(hz:nL (lL (bT L) FZ) aM A=some (us,A'))(inv:Inv w0 E.G β A w)(iX:aH (aX β.d) us=some ds1){T:jV}{fr:Fr}(hi:Ao L T ρ aM fr A'=true)(k:Nat):
 ∃aK,Inv w0 E.G (o8 L.length ρ aK (fun c=>ds1[c]?)) (T.aw k L []) w/\β.grow aK A.next/\Inv w0 E.G aK A' w/\m5 L.length ρ aM aK (o8 L.length ρ aK (fun c=>ds1[c]?))/\A'.next=A.next/\
  ∀(K n:Nat) (tmps:KB),bU aK n (fr.get J) tmps->bU (o8 L.length ρ aK (fun c=>ds1[c]?)) n ((oJ K T.tm).get J) tmps:=by
 have hn:E.G.n=bT L:=by rw[hG,eH]
 rw[<-hn] at hz;obtain⟨aK,i1,g1,n1,e1,f1⟩:=OK (w0:=w0) (w:=w) (G:=E.G) (fun v A u A' β h i=>yi ok FZ v A u A' β h i) aM A us A' β hz inv;have hsd:∀(c:Nat) (s:xM),aM[c]? =some s->∃d,(fun c=>ds1[c]?) c=some d/\SD aK s d:=fun c s hs=>by
  have hc:c<aM.length:=(xe.1 hs).1;have jw:c<us.length:=MK
  have bM:c<ds1.length:=by rw[pz iX];exact jw
  have hu:=xc jw;have hd:=nX iX (xc bM) hu;rw[<-g1.d] at hd;have uy:=aV9 (β:=aK) hd;refine⟨ds1[c],xc bM,uy.1,fun v' hv=> ?_,fun d' nq=> ?_⟩
  ·grind [FH,ai.dg]
  grind [XE,aG6,xC]
 have hI:=Xu (G:=L.length) (ρ:=ρ) hsd
 grind [aG7]
theorem Vt{nob:Nat}{β0 aK:ai}{n1 n2:Nat}(hk:∀i,i<nob->ρ[i]? =some (L.length+i)/\L.length+i≠cG)(hB:B<L.length+nob)(hn:L.length+nob<=n1)(h4:β0.grow β' n1)(h5:n1<=n2)(g1:β'.grow aK n2):(o8 L.length ρ aK δ) B=β0 B/\(L.length<=B->(o8 L.length ρ aK δ).o B=β0.o B):=by
 rw[yh,F3];by_cases h:B<L.length
 ·rw[if_pos h,g1.f _ MK,h4.f _ MK]
  grind
 ·rw[if_neg h,if_neg h];obtain⟨e1,e2⟩:=hk (B - L.length) MK;rw[e1,show L.length+(B - L.length)=B by omega];rw[show L.length+(B - L.length)=B by omega] at e2;show(if B=cG then none else aK B)=_/\(_->(if B=cG then some (Value.slice none 0 0) else aK.o B)=_);rw[if_neg e2,if_neg e2,g1.f _ MK,h4.f _ MK,g1.o _ MK,h4.o _ MK]
  grind
theorem YS{T:jV}:(T.aw k L []).pop r=T.aw k L r:=rfl
include ok hG hL in
theorem Oa{sg:ia}{b:Frame}{a':Act}{l:List (List Item)}{T:jV}{us:C3}{cK:Fr}{N:Nat}{cA ah:Di}
 (h7:vP L T sg.nob ρ aM us td cK A'=some l) (Ez:b.fn=f) (hb:b.roundOf=none) (h6:a'.defers=[]) (h3:Inv w0 E.G β' A' w') (h2:bU β' n (cK.get J) a'.tmps) (hs:Steps P m0 (lone (b.atR a' td) cs w'))
 (h4:({β with d:=δ}:ai).grow β' N) (hN:L.length+sg.nob<=N) (h5:N<=A'.next) (iX:aH (aX β'.d) us=some cA) (pj:td=v7) (Au:uh P E f n K k L sg v7 T cA ah):am0 P w0 E.G k L β b cs m0 sg ah:=by
 subst pj;unfold vP at h7;split at h7
 ·rename_i gC A2 hz;rcases aC h7 with⟨hi,h7⟩|⟨_,h7⟩
  ·cases h7;simp only [xf] at hi;obtain⟨⟨e1,e2⟩,e3⟩:=hi;have oL:=oQ _ _ e1;subst oL;rw[eH] at e3;have hk:=M3 e3;have hn:E.G.n=bT L:=by rw[hG,eH]
   rw[<-hn] at hz;obtain⟨β0,wF,ga,na⟩:=OY ok FZ h3;rw[hn] at hz wF na;obtain⟨aK,i1,g0,i2,hI,n1,bK⟩:=OR ok hG hL hz wF (ds1:=cA) (by rw[(ga 0).d];exact iX) e2 k;rw[na] at g0;have g1:=ai.iz (ga _) g0 (xk _);have sx:=h3.gy g1;have uc:=Au w0 w' _ b cs a' Ez hb h6 i1 (bK K n _ (h2.mono sx)) rfl;obtain⟨a3,w3,td3,v,io,fn,q1,q2,q3,q4,q5,q6,q7,q8,q9,q10⟩:=uc;have hx4:β'.x=β.x:=h4.x;refine⟨a3,w3,td3,v,io,fn,Steps.trans hs q1,q2,q3,q4,q5,q6,fun B hB=> ?_,fun bb c h=> ?_,q9,q10.trans (g1.x.trans hx4)⟩
   ·obtain⟨u1,u2⟩:=q7 B hB;obtain⟨k1,k2⟩:=Vt (β0:={β with d:=δ}) hk hB hN h4 h5 g1;exact⟨u1.trans k1,fun h=>(u2 h).trans (k2 h)⟩
   ·exact q8 bb c (g1.z bb c (h4.z bb c h))
  ·cases h7
 ·cases h7
include ok aU hG hL in
theorem aw6{call:eL->C3->AW->bp xM}(hc:mc P E call){bO:HF->Fr->AW->bp Fr}(j7:tK P E n bO){aT m2:Nat}{sg:ia}{T T':jV}{SO:Es}{Q4 iJ:C3}
 (aW:tU E sq call n bO Zb (vP L T' sg.nob SO Q4 iJ) aT m2 td (oJ K T.tm) (T.aw k L tape)=some bt) (bV0:∀o∈bt,o=v7) (Lc:sg.nob<=T.hp.length)
 {ds cA:Di} {δ:FM} (Eh:∀(c:Nat) (d:D),ds[c]? =some d->δ c=some d) (hn:∀nd∈tape,Q δ nd) (ad7:aH (aX δ) iJ=some cA) {ah:Di} (Au:uh P E f n K k L sg v7 T' cA ah):uh P E f n K k L sg td T ds ah:=by
 intro w0 w β b cs a Ez hb EB inv hf hd;obtain⟨mo,By⟩:=inv.LX (δ:=δ) (fun c d h=>Eh c d Ns) (Q:=Q) (r:=tape) hn;rw[YS,show(⟨E.G.n,Q,E.G.L⟩:GP)=E.G by rw[hG]] at mo;have HX:=bU.km By hf;have bk:=Jb ok aU hc j7 (b:=b) (cs:=cs) hb aT m2 td _ _ bt _ a w aW HX mo EB;obtain⟨l,hR,cK,A',β',a',w',h1,h2,h3,h4,h5,h6,h7⟩:=bk.ex;rcases h7 with⟨h7,_⟩|⟨h7,h8⟩
 ·cases h7
 ·have BQ:=h7;unfold vP at BQ;split at BQ
  ·rcases aC BQ with⟨_,BQ⟩|⟨_,BQ⟩<;>cases BQ
   grind [Oa,x7,xn,h4.d]
  ·cases BQ
theorem ax9{G:Nat}{cX:ai}(h:m5 G ρ aM β cX)(hA:∀v v',aj β v v'->aj β (rB A v) v'){v:xM}(hi:Qn G ρ aM A tv v=true)(hv:aj β v v'):aj cX tv v':=by
 unfold Qn at hi;split at hi
 ·split at hi
  ·cases hv with
   |tuple _ p' hp h1=>
    obtain⟨k1,k2⟩:=Iy h hA hi;refine .tuple _ p' (k1.trans hp) fun i a b ha hb=> ?_
    grind [xe,Fb,xc]
  ·cases hi
 grind [Fb]
include ok aU hG hL in
theorem aD3{call:eL->C3->AW->bp xM}(hc:mc P E call){bO:HF->Fr->AW->bp Fr}(j7:tK P E n bO)(qK:P.funcs[f]? =some fn){rs:List ResultVar}(Me:fn.results=⟨rs⟩){aT m2:Nat}{sg:ia}{T:jV}{SO:Es}{Q4 iJ:C3}
 (aW:tU E sq call n bO (RS E rs L sg SO Q4 iJ) Zc aT m2 td (oJ K T.tm) (T.aw k L tape)=some bt) (Lc:sg.nob<=T.hp.length)
 {ds cA:Di} {δ:FM} (Eh:∀(c:Nat) (d:D),ds[c]? =some d->δ c=some d) (hn:∀nd∈tape,Q δ nd) (ad7:aH (aX δ) iJ=some cA):uh P E f n K k L sg td T ds cA:=by
 intro w0 w β b cs a Ez hb EB inv hf hd;obtain⟨mo,By⟩:=inv.LX (δ:=δ) (fun c d h=>Eh c d Ns) (Q:=Q) (r:=tape) hn;rw[YS,show(⟨E.G.n,Q,E.G.L⟩:GP)=E.G by rw[hG]] at mo;have HX:=bU.km By hf;have bk:=Jb ok aU hc j7 (b:=b) (cs:=cs) hb aT m2 td _ _ bt _ a w aW HX mo EB;obtain⟨l,hR,cK,A',β',a',w',h1,h2,h3,h4,h5,h6,h7⟩:=bk.ex;rcases h7 with⟨h7,h8⟩|⟨h7,_⟩
 ·unfold RS at h7;split at h7
  ·rename_i v hv;split at h7
   ·rename_i gC A2 hz;rcases aC h7 with⟨hi,h7⟩|⟨_,h7⟩
    ·cases h7;simp only [xf] at hi;obtain⟨⟨⟨e1,e2⟩,e3⟩,e4⟩:=hi;have oL:=oQ _ _ e1;subst oL;rw[eH] at e3 e4;have hk:=M3 e3;obtain⟨v',r1,r2⟩:=Yg ok h3 h2 Me hv;have hn:E.G.n=bT L:=by rw[hG,eH]
     rw[<-hn] at hz;obtain⟨β0,wF,ga,na⟩:=OY ok FZ h3;rw[hn] at hz wF na;obtain⟨aK,i1,g0,i2,hI,n1,bK⟩:=OR ok hG hL hz wF (ds1:=cA) (by rw[(ga 0).d,h4.d];exact ad7) e2 k;rw[na] at g0;have g1:=ai.iz (ga _) g0 (xk _);have sx:=h3.gy g1;refine⟨a',w',hR,v',_,fn,h8,h6,Ns,r1,i1,ax9 hI i2.Ad e4 (r2.mono sx),fun B hB=>Vt (β0:={β with d:=δ}) hk hB (by rw[x7];omega) h4 h5 g1,fun bb c h=>g1.z bb c (h4.z bb c h),fun c d h=>h,g1.x.trans h4.x⟩
    ·cases h7
   ·cases h7
  ·cases h7
 ·cases h7
end
def zy(P:Program)(LL:World->Prop)(k:Nat)(L:Gy)(f:FuncId)(sg:ia)(ds cA:Di):Prop:=
 ∀(w:World) (β:ai) (args':C3),Inv w (G0 L LL) β ((m4 sg.hp).aw k L []) w->β.d=(fun c=>ds[c]?)->aZ β sg.args args'->
  Calls P f ⟨args'⟩ w fun e w'=>∃v β',e= .returned v/\Inv w (G0 L LL) β' ((m4 sg.hp').aw k L []) w'/\aj β' sg.rv v/\(∀B,B<L.length+sg.nob->β' B=β B/\(L.length<=B->β'.o B=β.o B))/\(∀b c,β.z b=some c->β'.z b=some c)/\(∀(c:Nat) (d:D),cA[c]? =some d->β'.d c=some d)/\β'.x=β.x
def vS(args:C3):List (Nat×xM):=args.zipIdx.map fun p=>(p.2,p.1)
theorem aK0{args:C3}{t:Nat}{v:xM}(h:(t,v)∈vS args):args[t]? =some v:=by
 unfold vS at h;obtain⟨p,hp,e⟩:=xJ.1 h;have:=List.mem_zipIdx_iff_getElem?.1 hp;cases e;exact this
theorem Inv.SU{Q':(FM)->Node->Prop}(h:Inv w0 ⟨n,Q,LL⟩ β A w)(hA:A.tape=[]):Inv w0 ⟨n,Q',LL⟩ β A w:=
 ⟨h.below,h.ft,h.du,h.loc,h.inj,h.cont,h.jn,h.dB,h.sep,(fun nd dw=>absurd dw (by rw[hA];exact List.not_mem_nil)),h.own,h.iG,h.lay,h.xg,h.jM,h.zo,h.dP⟩
section
variable(hG:E.G=⟨L.length,Q,LL⟩)
include hG in
theorem au1{c:Code}(qK:P.funcs[f]? =some fn)(De:fn.body=some c){sg:ia}(aE:sg.args.length<=fn.ntmps){ds cA:Di}
 (bw5:uh P E f fn.ntmps K k L sg [.code c] ⟨vS sg.args,sg.hp⟩ ds cA):zy P LL k L f sg ds cA:=by
 intro w β args' inv hd iS cs;have mo:Inv w E.G β ((jV.mk (vS sg.args) sg.hp).aw k L []) w:=by
  rw[hG];exact inv.SU rfl
 let b:Frame:={(default:Frame) with fn:=f,kind:= .normal,roundOf:=none}
 have aR:sg.args.length=args'.length:=iS.1;have ux:((⟨args'⟩:KB)++Array.replicate (fn.ntmps - args'.length) undef).size=fn.ntmps:=by simp;omega
 have Px:Frame.enter P f ⟨args'⟩ .normal=b.atR {tmps:=(⟨args'⟩:KB)++Array.replicate (fn.ntmps - args'.length) undef,defers:=[]} [.code c]:=by
  simp[Frame.enter,Frame.atR,qK,De,b]
 have hf:bU β fn.ntmps ((oJ K (vS sg.args)).get J) ((⟨args'⟩:KB)++Array.replicate (fn.ntmps - args'.length) undef):=by
  refine⟨ux,fun t=> ?_⟩;rcases OM K (vS sg.args) t with e|⟨tv,h1,e⟩
  ·rw[e];exact .jT _
  ·rw[e];have ha:=aK0 h1;have ht:t<sg.args.length:=(xe.1 ha).1;have Md:t<args'.length:=MK
   have hg:((⟨args'⟩:KB)++Array.replicate (fn.ntmps - args'.length) undef).getD t undef=args'[t]:=by
    rw[Array.getD_eq_getD_getElem?,Array.getElem?_append_left (by simpa using Md)];simp[Md]
   rw[hg];exact iS.2 t _ _ ha (xc Md)
 obtain⟨a',w',v7,v,β',fn',e1,e2,e3,e4,e5,e6,e7,e8,e9,e10⟩:=bw5 w w β b cs {tmps:=(⟨args'⟩:KB)++Array.replicate (fn.ntmps - args'.length) undef,defers:=[]} rfl rfl rfl mo hf hd;have Mp:fn'=fn:=by
  have:P.funcs[f]? =some fn':=e3;rw[qK] at this;cases this;rfl
 subst Mp;rw[hG] at e5;refine⟨.returned v,w',{b.atR a' v7 with mode:= .returning},⟨v,β',rfl,e5.SU rfl,e6,e7,e8,e9,e10⟩,?_,rfl,rfl,e2,rfl,_,qK,e4⟩;rw[Px];exact e1
end
end
end Go.Ex
