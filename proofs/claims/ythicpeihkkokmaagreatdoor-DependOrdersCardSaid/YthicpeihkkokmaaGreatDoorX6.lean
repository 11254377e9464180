/- A verified evaluator of Go functions. -/
import Derived.Test.YthicpeihkkokmaaGreatDoorX5
import Derived.Lib.MakeNoZero
set_option linter.unusedVariables false
set_option linter.unusedSimpArgs false
namespace Go.Ex
variable{β:ai}{b es B n:Nat}{ty t:xN}{ks:JI}{rows rs:Ca}{kd:Di}{w0 w:World}{G:GP}{A A':AW}{l:Loc}{blk:aG}{e:MapEntry}{P:Program}{E:az}{us args:C3}{ex:Bool}{m m' k k':xM}{o:Oper}{α:Type}{fr:Gt}{a:Act}{op:Op}
open Go.RowKit
noncomputable section
theorem lP.lU{β':ai}{dZ:Ca}{jU Dl:FP}(h:lP β b es ty ks none rows jU){td:Option (Nat×List D)}{j:Nat}{vs:C3}{d:D}{ej:MapEntry}
 (aE:dZ.length=Dl.length) (kE:∀(i:Nat) (r:Di) (e:MapEntry),i≠j->dZ[i]? =some r->Dl[i]? =some e->rows[i]? =some r/\∃e0,jU[i]? =some e0/\e.key=e0.key/\e.val=e0.val) (hj:dZ[j]? =some [.agg kd,d]) (hej:Dl[j]? =some ej) (jF:fc ks kd=some vs) (hk:ej.key= .agg ⟨vs⟩)
 (ae6:(d=eT/\∀B,td=some (B,kd)->β'.o B=some ej.val)\/∃rs,d= .sl rs/\lQ β' b es ty rs ej.val) (pj:∀B k,td=some (B,k)->k=kd) (rn:∀(i:Nat) (r:Di),i≠j->dZ[i]? =some r->r[0]?≠some (.agg kd))
 (Db:∀(i:Nat) (r:Di) (rs:Ca) (e:MapEntry),i≠j->rows[i]? =some r->r[1]? =some (.sl rs)->jU[i]? =some e->lQ β b es ty rs e.val->lQ β' b es ty rs e.val)
 (cp7:d≠eT->∀(i:Nat) (r:Di) (e:MapEntry) (c:Nat),i≠j->rows[i]? =some r->r[1]?≠some eT->jU[i]? =some e->tR e.val=some c->tR ej.val≠some c):lP β' b es ty ks td dZ Dl:=by
 refine⟨aE,fun i r e h1 h2=> ?_,fun i i' r r' e e' c h1 h2 n1 n2 h3 h4 b1 b2=> ?_,fun i i' r r' h1 h2 h3=> ?_⟩
 ·by_cases hi:i=j
  ·grind
  ·obtain⟨g1,e0,g2,g3,g4⟩:=kE i r e hi h1 h2;obtain⟨ds,lT,d',x,y,u,w⟩:=h.row i r e0 g1 g2;refine⟨ds,lT,d',x,y,g3.trans u,?_⟩;rw[g4];rcases w with⟨p,_⟩|⟨rs,p,q⟩
   ·refine .inl ⟨p,fun B hB=> ?_⟩;have:=pj B ds hB;subst this;exact absurd (by rw[x];rfl) (rn i r hi h1)
   ·exact .inr ⟨rs,p,Db i r rs e0 hi g1 (by rw[x,p];rfl) g2 q⟩
 ·by_cases hi:i=j<;>by_cases cb:i'=j
  ·rw[hi,cb]
  ·grind
  ·grind
  ·obtain⟨g1,e0,g2,g3,g4⟩:=kE i r e hi h1 h3;obtain⟨uM,e0',s8,g3',g4'⟩:=kE i' r' e' cb h2 h4
   grind [h.inj]
 ·by_cases hi:i=j<;>by_cases cb:i'=j
  ·rw[hi,cb]
  ·grind
  ·grind
  ·have hl:i<Dl.length:=by rw[<-aE];exact(xe.1 h1).1
   have fG:i'<Dl.length:=by rw[<-aE];exact(xe.1 h2).1
   grind [xc,h.key]
def qz(β:ai)(n:Nat)(l:Loc)(v:xM)(c:Nat):ai:={β with f:=fun X=>if X=n then some l else β X,o:=fun X=>if X=n then some v else β.o X,y:=fun b=>if b=c then none else β.y b}
theorem PZ(β:ai)(n:Nat)(l:Loc)(v:xM)(c X:Nat):(qz β n l v c) X=if X=n then some l else β X:=rfl
theorem PY(β:ai)(n:Nat)(l:Loc)(v:xM)(c X:Nat):(qz β n l v c).o X=if X=n then some v else β.o X:=rfl
theorem PX(β:ai)(n:Nat)(l:Loc)(v:xM)(c X:Nat):(qz β n l v c).y X=if X=c then none else β.y X:=rfl
section
theorem aB6(n:Nat)(l:Loc)(v:xM)(c:Nat):β.grow (qz β n l v c) n:=⟨fun B hB=>by rw[PZ,if_neg MK],fun _ _ h=>h,fun B hB=>by rw[PY,if_neg MK],rfl,rfl⟩
theorem Inv.take(h:Inv w0 G β A w){c:Nat}{hh:HY}(hy:β.y c=some hh)(hl:l.b=c){v:xM}
 (iS:gB (qz β A.next l v c) l blk w.heap[c]?) (lK:jA (qz β A.next l v c) A.next blk)
 (hm:∀(C:Nat) (k:aG) (lc:Loc),A.get C=some k->β C=some lc->lc.b=hh.own->gB (qz β A.next l v c) lc k w.heap[lc.b]?):Inv w0 G (qz β A.next l v c) (A.add blk) w/\β.grow (qz β A.next l v c) A.next:=by
 have hg:=aB6 (β:=β) A.next l v c;have aN:β.le (qz β A.next l v c):=h.gy hg;have hn:A.get A.next=none:=h.du _ (xk _);obtain⟨y1,y2,y3,y4⟩:=h.dP c hh hy;have jm:∀B lb,(qz β A.next l v c) B=some lb->(B=A.next/\lb=l)\/(B≠A.next/\β B=some lb):=fun B lb e=>by
  rw[PZ] at e
  grind
 have gX:∀B,B≠A.next->(A.add blk).get B=A.get B:=fun B hB=>by
  grind [absurd,A.mR]
 refine⟨⟨h.below,fun B lb e=> ?_,fun B hB=> ?_,fun B lb e=> ?_,fun B B' lb Bs e e' eG ha kR=> ?_,fun B k lb hk e=> ?_,fun g hg=> ?_,h.dB,fun B lb kb hG e ha hs=> ?_,h.dX,fun B k hk=> ?_,fun B u e=> ?_,h.lay,h.xg,h.jM,h.zo,fun b hb wc=> ?_⟩,hg⟩
 ·show B<A.next+1;rcases jm B lb e with⟨e1,_⟩|⟨_,e⟩
  ·omega
  ·exact Nat.lt_succ_of_lt (h.ft B lb e)
 ·have uK:A.next+1<=B:=hB
  grind [h.du]
 ·rcases jm B lb e with⟨_,e2⟩|⟨_,e⟩
  ·rw[e2,hl];exact⟨(Array.getElem?_eq_some_iff.1 y1).1,.inr y3⟩
  ·exact h.loc B lb e
 ·grind [absurd,eG.symm,h.inj]
 ·rcases jm B lb e with⟨h1,h2⟩|⟨hB,f⟩
  ·rw[h1] at hk;rw[h2];rcases A.mR blk hn A.next with⟨e2,_⟩|e2
   ·grind
   grind
  ·rw[gX B hB] at hk;by_cases ho:lb.b=hh.own
   ·grind
   ·refine(h.cont B k lb hk f).mono aN fun c' h' e1 e2=> ?_
    rw[PX,if_neg (fun e3=>ho Ns)];exact e1
 ·grind [h.jn,aN.f]
 ·rcases jm B lb e with⟨_,h2⟩|⟨hB,f⟩
  ·rw[h2,hl];exact y2
  ·rw[gX B hB] at ha;exact h.sep B lb kb hG f ha hs
 ·rcases A.mR blk hn B with⟨e2,e3⟩|e2
  ·grind
  ·rw[e2] at hk;exact(h.own B k hk).mono aN
 ·rw[PY] at e;show B<A.next+1;split at e
  ·omega
  ·exact Nat.lt_succ_of_lt (h.iG B u e)
 ·rw[PX] at wc;split at wc
  ·cases wc
  ·rename_i bo;obtain⟨q1,q2,q3,q4⟩:=h.dP b hb wc;refine⟨q1,q2,q3,fun B lb e ha=> ?_⟩
   grind
theorem Inv.bg2(h:Inv w0 G β A w){u:xM}(hu:aX β.d u=some (.sl [])):Inv w0 G (β.mj A.next (.slice none 0 0)) (A.add ⟨.own u,es,false,false,ty⟩) w/\β.grow (β.mj A.next (.slice none 0 0)) A.next:=by
 have hg:=ai.zE β A.next (.slice none 0 0);have ho:β.o A.next=none:=by
  cases hc:β.o A.next with
  |none=>rfl
  |some l=>exact absurd (h.iG _ l hc) (Nat.lt_irrefl _)
 have aN:=ai.WW (β:=β) (.slice none 0 0) ho;have hn:A.get A.next=none:=h.du _ (xk _);have hb:β A.next=none:=by
  cases hc:β A.next with
  |none=>rfl
  |some l=>exact absurd (h.ft _ l hc) (Nat.lt_irrefl _)
 have gX:∀B l,β B=some l->(A.add ⟨.own u,es,false,false,ty⟩).get B=A.get B:=fun B l e=>by
  grind [own,A.mR]
 refine⟨⟨h.below,fun B l e=>Nat.lt_succ_of_lt (h.ft B l e),fun B hB=> ?_,h.loc,fun B B' l l' e e' eG ha kR=> ?_,fun B k l hk e=> ?_,h.jn,h.dB,fun B l kb hG e ha hs=> ?_,h.dX,fun B k hk=> ?_,fun B v e=> ?_,h.lay,h.xg,h.jM,h.zo,fun b hh hy=>⟨(h.dP b hh hy).1,(h.dP b hh hy).2.1,(h.dP b hh hy).2.2.1,fun C lc e ha=>(h.dP b hh hy).2.2.2 C lc e (by rw[gX C lc e] at ha;exact ha)⟩⟩,hg⟩
 ·have uK:A.next+1<=B:=hB
  grind [own,A.mR,h.du]
 ·rw[gX B l e] at ha;rw[gX B' l' e'] at kR;exact h.inj B B' l l' e e' eG ha kR
 ·rw[gX B l e] at hk;exact(h.cont B k l hk e).mono aN
 ·rw[gX B l e] at ha;exact h.sep B l kb hG e ha hs
 ·rcases A.mR ⟨.own u,es,false,false,ty⟩ hn B with⟨e2,e3⟩|e2
  ·rw[e2] at hk;cases hk;exact⟨[],hu,.inl ⟨rfl,by show(if B=A.next then _ else _)=_;grind⟩⟩
  ·rw[e2] at hk;exact(h.own B k hk).mono aN
 ·have e':(if B=A.next then some (Value.slice none 0 0) else β.o B)=some v:=e;show B<A.next+1;split at e'
  ·omega
  ·exact Nat.lt_succ_of_lt (h.iG B v e')
def Ms(β:ai)(c:Nat)(hh:HY):ai:={β with y:=fun b=>if b=c then some hh else β.y b}
theorem Kv(β:ai)(c:Nat)(hh:HY)(b:Nat):(Ms β c hh).y b=if b=c then some hh else β.y b:=rfl
theorem aH0(c:Nat)(hh:HY)(n:Nat):β.grow (Ms β c hh) n:=⟨fun _ _=>rfl,fun _ _ h=>h,fun _ _=>rfl,rfl,rfl⟩
theorem Inv.bz5(h:Inv w0 G β A w){k:aG}{aB:KB}(ob:Nat)(hg:A.get B=some k)(hs:k.still=false)(hB:β B=some l)(hG:G.n<=B)(hh:w.heap[l.b]? =some (.cells aB ty (0,0))):Inv w0 G (Ms β l.b ⟨ob,aB,ty⟩) (A.put B none) w:=by
 have hk:=h.kill B;have aN:β.le (Ms β l.b ⟨ob,aB,ty⟩):=⟨fun _ _ e=>e,fun _ _ e=>e,fun _ _ e=>e,rfl,rfl⟩;have S8:=h.FN hB (by rw[hg];rfl);have lF:∀C,((A.put B none).get C).isSome=true->C≠B/\(A.get C).isSome=true:=fun C hs=>by
  grind [A.gd]
 refine⟨hk.below,hk.ft,hk.du,hk.loc,hk.inj,fun C kc lc a b=>(hk.cont C kc lc a b).mono aN fun c' h' e1 _=> ?_,hk.jn,hk.dB,hk.sep,hk.dX,fun C kc a=>(hk.own C kc a).mono aN,hk.iG,hk.lay,hk.xg,hk.jM,hk.zo,fun b hb wc=> ?_⟩
 ·rw[Kv,if_neg (fun e=>Ns)];exact e1
 ·rw[Kv] at wc;split at wc
  ·rename_i he;subst he;cases wc;refine⟨hh,h.sep B l k hG hB hg hs,(h.loc B l hB).2.resolve_left (Nat.not_lt.2 hG),fun C lc e ha eG=> ?_⟩;obtain⟨h1,h2⟩:=lF C ha;exact h1 (h.inj C B lc l e hB eG h2 (by rw[hg];rfl))
  ·obtain⟨q1,q2,q3,q4⟩:=h.dP b hb wc;exact⟨q1,q2,q3,fun C lc e ha=>q4 C lc e (lF C ha).2⟩
end
def MG(v:xM):Prop:=v= .slice none 0 0\/∃c off n cap,v= .slice (some ⟨c,off,none⟩) n cap
theorem lQ.LU{v:xM}(h:lQ β b es ty rs v):MG v:=h.elim (fun h=> .inl h.2) fun⟨c,off,cap,_,e,_⟩=> .inr ⟨c,off,_,cap,e⟩
def GY(es:FP):ai where
 f:=fun i=>match es[i]? with|some ⟨_,.slice (some a) _ _,_⟩=>some ⟨a.block,a.off,0,0⟩|_=>none
 z:=fun _=>none
 d:=fun i=>match es[i]? with|some ⟨_,.slice _ n _,_⟩=>some (.sl (List.replicate n []))|_=>none
 x:=⟨fun _=>False,fun _=>none⟩
 o:=fun i=>(es[i]?).map (·.val)
def DG(rows:Ca)(i:Nat):xM:=match rows[i]? with|some [_,.o6]=>J|_=> .iface i (.chan (some (i+1)))
theorem aG1{es:FP}{i:Nat}(he:es[i]? =some e)(hv:MG e.val):aj (GY es) (.iface i (.chan (some (i+1)))) e.val:=by
 obtain⟨k,v,bn⟩:=e;rcases hv with rfl|⟨c,off,n,cap,rfl⟩
 ·exact .own i i [] none 0 (by show(es[i]?).map _=_;rw[he];rfl) (.inl ⟨rfl,rfl⟩) (by show(match es[i]? with|some ⟨_,.slice _ n _,_⟩=>some (D.sl (List.replicate n []))|_=>none)=_;rw[he];rfl)
 ·have:=aj.own (β:=GY es) i i (List.replicate n []) (some ⟨c,off,none⟩) cap (by show(es[i]?).map _=_;grind) (.inr ⟨⟨c,off,0,0⟩,by show(match es[i]? with|some ⟨_,.slice (some a) _ _,_⟩=>some (Loc.mk a.block a.off 0 0)|_=>none)=_;rw[he],rfl⟩) (by show(match es[i]? with|some ⟨_,.slice _ n _,_⟩=>some (D.sl (List.replicate n []))|_=>none)=_;rw[he])
  grind
theorem aG2{es:FP}{i:Nat}{v:xM}(he:es[i]? =some e)(h:aj (GY es) (.iface i (.chan (some (i+1)))) v):v=e.val:=by
 cases h with
 |own _ _ rows a cap ho ha hd=>
  have iY:(es[i]?).map (·.val)=some (.slice a rows.length cap):=ho
  grind
section
variable(ok:E.Ok P){sq:Cf}(aU:E.Seq P sq)
include ok aU in
theorem Vz{kt:xN}(dS:ib sq kt=some ks)(bH:fc ks kd=some us){ae:FP}(g:Hm ks rows ae)(hs:∀(i:Nat) (row:Di) (e:MapEntry),rows[i]? =some row->ae[i]? =some e->row[1]?≠some eT->MG e.val)(w:World):
 ∃r',(Instr.findKey kt (.agg ⟨us⟩) ae).run P w= .ok r' w/\(cT kd rows=none->r'=none)/\(∀j,cT kd rows=some j->∃v1,r'=some (j,v1)/\∀e row,ae[j]? =some e->rows[j]? =some row->row[1]?≠some eT->v1=e.val)/\
  (∀em,(Instr.checkKey em 10000 kt (.agg ⟨us⟩)).run P w= .ok () w)/\Instr.sameBits 10000 (.agg ⟨us⟩) (.agg ⟨us⟩)=true:=by
 have tP:=Ny (E:=E) (sq:=sq) dS (DG rows) bH rows ae 0 g;have gY:qX E sq kt (.agg ⟨us⟩)=true:=by
  unfold qX;have:jz E sq kt (.agg ⟨us⟩) (.agg ⟨us⟩)=some true:=by
   show(match ib sq kt with|some ks=>eR ks us us|none=>none)=_;rw[dS];show eR ks us us=_;rw[zL ks kd kd us us bH bH,xS ks kd us bH]
  rw[this]
 have iS:il (GY ae) (sF (DG rows) ae 0) ae:=by
  refine⟨Og _ _ _,fun i e e' h1 h2=> ?_⟩;rw[Oh _ ae 0 i e' h2] at h1;cases h1;have hi:i<rows.length:=by rw[g.1];exact(xe.1 h2).1
  obtain⟨ds,vs,d,eS,hf,hk⟩:=g.2 i _ e' (xc hi) h2;refine⟨rfl,by show aj _ e'.key e'.key;grind [hk,aj.mU,xU],?_⟩;show aj _ (DG rows (0+i)) e'.val;rw[Nat.zero_add];unfold DG;split
  ·exact .jT _
  ·rename_i bo;refine aG1 h2 (hs i _ e' (xc hi) h2 fun he=> ?_)
   simp_all
 obtain⟨⟨r',f1,f2⟩,f3,f4,f5,f6⟩:=FE (P:=P) ok aU gY (aj.mU (β:=GY ae) (xU _ ks kd us bH)) tP iS w;refine⟨r',f1,fun hn=> ?_,fun j hj=> ?_,f3,f5⟩
 ·rw[hn] at f2;rcases f2 with⟨_,e⟩|⟨_,_,_,e,_⟩
  ·exact e
  ·cases e
 ·rw[hj] at f2;rcases f2 with⟨e,_⟩|⟨j1,v1,ru,e,e2,e5⟩
  ·cases e
  ·have e:some (0+j,DG rows (0+j))=some (j1,v1):=e;injection e with e;injection e with e3 e4;rw[Nat.zero_add] at e3 e4
   grind [DG,absurd,aG2]
end
def Sx(E:az)(sq:Cf)(A:AW)(t:xN)(m k:xM):Im:=
 match E.ti.get none t,m with
 |some ⟨.map kt et,_,_,_,_⟩,.map (some B)=>match ib sq kt,A.get B,x8 E et,A.tape with
  |some ks,some ⟨.gA fU c none,es,ex,false,ty⟩,some (.slice none 0 0),nd::r=>match nd.res with
   | .agg ⟨[y,gX,st]⟩=>bs (mf ks fU&&n7 nd.k (.Cy ks)&&ri nd.args [c,k]&&fB y&&fB gX&&Nat.ble E.G.n B) (some (.tuple ⟨[.iface A.next gX,st]⟩,((A.pop r).put B (some ⟨.gA fU y none,es,ex,false,ty⟩)).add ⟨.own gX,es,false,false,ty⟩)) none
   |_=>none
  |_,_,_,_=>none
 |_,_=>none
def RP(E:az)(sq:Cf)(A:AW)(t:xN)(m k:xM):Im:=
 match E.ti.get none t,m with
 |some ⟨.map kt et,_,_,_,_⟩,.map (some B)=>match ib sq kt,A.get B,x8 E et,A.tape with
  |some ks,some ⟨.gA fU c none,es,ex,false,ty⟩,some (.slice none 0 0),nd::r=>match nd.res,k with
   | .agg ⟨[y,gX]⟩,.agg ⟨kl⟩=>bs (mf ks fU&&n7 nd.k (.Cv ks)&&ri nd.args [c,k]&&fB y&&fB gX&&Nat.ble E.G.n B) (some (.iface A.next gX,(((A.pop r).put B (some ⟨.gA fU y none,es,ex,false,ty⟩)).add ⟨.own gX,es,false,false,ty⟩).put B (some ⟨.gA fU y (some (A.next,kl)),es,ex,false,ty⟩))) none
   |_,_=>none
  |_,_,_,_=>none
 |_,_=>none
def Sv(E:az)(A:AW)(m s v:xM):Option AW:=
 match m,v with
 | .map (some B),.iface B2 (.chan (some (_+1)))=>match A.get B,A.get B2 with
  |some ⟨.gA ks c none,es,ex,false,ty⟩,some ⟨.own c2,es2,_,false,pQ⟩=>bs (Nat.ble E.G.n B&&Nat.ble E.G.n B2&&Nat.beq es es2&&Nat.beq ty pQ) (match nJ A .u4 [c,s,c2] with
   |some (u,A1)=>some ((A1.put B2 none).put B (some ⟨.gA ks u none,es,ex,false,ty⟩))
   |none=>none) none
  |_,_=>none
 |_,_=>none
section
variable(ok:E.Ok P){sq:Cf}(aU:E.Seq P sq)
theorem lQ.loc{c off cap:Nat}(h:lQ β b es ty rs (.slice (some ⟨c,off,none⟩) n cap)):∃hh,n=rs.length/\β.y c=some hh/\hh.own=b/\hh.ty=ty/\rs.length<=cap/\off+cap*es<=hh.cs.size/\(∀row∈rs,row.length=es)/\
 ∀(i:Nat) (row:Di) (j:Nat) (d:D),rs[i]? =some row->row[j]? =some d->∃v,hh.cs[off+(i*es+j)]? =some v/\Rd β.z d v:=by
 rcases h with⟨_,e⟩|⟨c',cn5,yQ,hh,e,h⟩
 ·cases e
 grind
theorem lQ.bk6{β':ai}(hz:β'.z=β.z){v:xM}(hy:∀c h,tR v=some c->β.y c=some h->β'.y c=some h)(h:lQ β b es ty rs v):lQ β' b es ty rs v:=
 h.imp id fun⟨c,off,cap,h,e1,e2,e3,e4,e5,e6,e7,e8⟩=>⟨c,off,cap,h,e1,hy c h (by rw[e1];rfl) e2,e3,e4,e5,e6,e7,fun i row j d x y=>(e8 i row j d x y).imp fun v ⟨p,q⟩=>⟨p,Ns⟩⟩
theorem Inv.Om(inv:Inv w0 G β A w){y:xM}(hg:A.get B=some ⟨.gA ks y none,es,ex,false,ty⟩)(hl:β B=some l){co:Nat}(hd:β.d co=some (.sl rs)){v:xM}(hv:lQ β l.b es ty rs v)
 (Zx:∀(ae:FP) (ck:Nat) (rows:Ca),w.heap[l.b]? =some (.map ⟨ae⟩ ck)->aX β.d y=some (.sl rows)->∀(i:Nat) (r:Di) (e:MapEntry),rows[i]? =some r->r[1]?≠some eT->ae[i]? =some e->∀c,tR e.val=some c->tR v≠some c):
 ∃β',Inv w0 G β' (A.add ⟨.own (.chan (some (co+1))),es,false,false,ty⟩) w/\β.grow β' A.next/\aj β' (.iface A.next (.chan (some (co+1)))) v/\β'.o A.next=some v:=by
 have ii:aX β.d (.chan (some (co+1)))=some (.sl rs):=by
  show(β.d co).bind _=_;rw[hd];rfl
 rcases hv with⟨rfl,rfl⟩|⟨c,off,cap,hh,rfl,hy,ho,ht,h1,h2,h3,h4⟩
 ·obtain⟨i1,g1⟩:=inv.bg2 (u:= .chan (some (co+1))) (es:=es) (ty:=ty) ii;have y7:(β.mj A.next (.slice none 0 0)).o A.next=some (.slice none 0 0):=by show(if A.next=A.next then _ else _)=_;rw[if_pos rfl]
  exact⟨_,i1,g1,.own A.next co [] none 0 y7 (.inl ⟨rfl,rfl⟩) hd,y7⟩
 ·subst ht;have hf:(qz β A.next ⟨c,off,es,hh.cs.size⟩ (.slice (some ⟨c,off,none⟩) rs.length cap) c) A.next=some ⟨c,off,es,hh.cs.size⟩:=by rw[PZ,if_pos rfl]
  have y7:(qz β A.next ⟨c,off,es,hh.cs.size⟩ (.slice (some ⟨c,off,none⟩) rs.length cap) c).o A.next=some (.slice (some ⟨c,off,none⟩) rs.length cap):=by rw[PY,if_pos rfl]
  have zk:off+rs.length*es<=hh.cs.size:=xH (Nat.add_le_add_left (xD es h1) off) h2;obtain⟨i1,g1⟩:=inv.take hy (l:=⟨c,off,es,hh.cs.size⟩) rfl (v:= .slice (some ⟨c,off,none⟩) rs.length cap) (blk:=⟨.own (.chan (some (co+1))),es,false,false,hh.ty⟩)
   ⟨hh.cs,rs,(inv.dP c hh hy).1,rfl,ii,rfl,h3,zk,h4⟩ ⟨rs,ii,.inr ⟨_,cap,hf,y7,h1,h2,rfl⟩⟩ (fun C k lc e1 e2 e3=>by
    have hC:C=B:=inv.inj C B lc l e2 hl (e3.trans ho) (by rw[e1];rfl) (by rw[hg];rfl);subst hC;rw[hg] at e1;cases e1;rw[hl] at e2;cases e2;obtain⟨ae,ck,rows,td,q1,q2,q3,q4,q5⟩:=inv.cont C _ l hg hl;have pj:td=none:=by cases td with|none=>rfl|some p=>exact q3.elim
    subst pj;refine⟨ae,ck,rows,none,q1,q2,trivial,⟨q4.len,fun i row e a1 a2=> ?_,q4.inj,q4.key⟩,q5⟩;obtain⟨ds,vs,d,x1,x2,x3,x4⟩:=q4.row i row e a1 a2;refine⟨ds,vs,d,x1,x2,x3,x4.imp (fun⟨p,_⟩=>⟨p,fun B e=>by cases e⟩) fun⟨Bq,p,q⟩=>⟨Bq,p,lQ.bk6 (β:=β) (by rfl) (fun c' h' b1 b2=> ?_) q⟩⟩;have bo:=Zx ae ck rows q1 q2 i row e a1 Ns a2 c' b1;rw[PX,if_neg (fun e=>bo (by rw[e];rfl))];exact b2)
  exact⟨_,i1,g1,.own A.next co rs _ cap y7 (.inr ⟨_,hf,rfl⟩) hd,y7⟩
theorem IC{g:xM->KA}{x y z:xM}{ds:Di}(h:aH g [x,y,z]=some ds):∃a b c,ds=[a,b,c]/\g x=some a/\g y=some b/\g z=some c:=by
 obtain⟨a,r,rfl,h1,h2⟩:=jb h;obtain⟨b,c,rfl,h3,h4⟩:=jj h2
 grind
theorem lP.LU{tk:Option (Nat×List D)}{jU:FP}(h:lP β b es ty ks tk rows jU):∀(i:Nat) (row:Di) (e:MapEntry),rows[i]? =some row->jU[i]? =some e->row[1]?≠some eT->MG e.val:=fun i row e a1 a2 bo=>by
 obtain⟨ds,vs,d,x1,_,_,x4⟩:=h.row i row e a1 a2;rcases x4 with⟨p,_⟩|⟨rs,_,q⟩
 ·grind
 ·exact q.LU
theorem IX(bH:fc ks kd=some us):∀{rows:Ca} {j:Nat},cT kd rows=some j->(∀(i:Nat) (r:Di),rows[i]? =some r->∃ds vs d,r=[.agg ds,d]/\fc ks ds=some vs)->∃d,rows[j]? =some [.agg kd,d]:=fun{rows j} h hr=>by
 obtain⟨row,h1,h2,h3⟩:=zH h;obtain⟨ds,vs,d,rfl,hf⟩:=hr j row h1;obtain⟨rfl,_⟩:=Jq ks kd ds us vs bH hf h3
 grind
theorem wZ:∀{rows:Ca},cT kd rows=none->∀(i:Nat) (r:Di),rows[i]? =some r->kf kd r=false
 |[],_,i,r,h=>by simp at h
 |row::t,hn,i,r,h=>by
  unfold cT at hn;split at hn
  ·cases hn
  ·rename_i hk;cases i with
   |zero=>simp at h;subst h;simpa using hk
   |succ i=>exact wZ (by simpa using hn) i r (by simpa using h)
theorem Inv.Pr(inv:Inv w0 G β A w)(hg:A.get B=some blk)(hs:blk.still=false)(hl:β B=some l)(hG:G.n<=B){ae es2:FP}{ck ck2:Nat}(g1:w.heap[l.b]? =some (.map ⟨ae⟩ ck)){y:xM}{tk:Option (Nat×List xM)}
 (hb:∃dZ td,aX β.d y=some (.sl dZ)/\D7 β.d tk td/\lP β l.b es ty ks td dZ es2/\ck2=es2.length/\∀(i:Nat) (e:MapEntry),es2[i]? =some e->e.born=i):
 (setObj l.b (.map ⟨es2⟩ ck2)).run P w= .ok () {w with heap:=w.heap.setIfInBounds l.b (.map ⟨es2⟩ ck2)}/\Inv w0 G β (A.put B (some ⟨.gA ks y tk,es,ex,false,ty⟩)) {w with heap:=w.heap.setIfInBounds l.b (.map ⟨es2⟩ ck2)}:=by
 have bm:l.b<w.heap.size:=(Array.getElem?_eq_some_iff.1 g1).1;refine⟨by simp[setObj,Sem.run,g1],?_⟩;refine inv.write B l _ _ hg hl hG ⟨rfl,rfl,rfl,NS,fun k hk bo=> ?_⟩ NS ?_ trivial hs
 ·grind
 ·show gB β l _ ((w.heap.setIfInBounds l.b _)[l.b]?);rw[Array.getElem?_setIfInBounds_self_of_lt bm];obtain⟨dZ,td,h1,h2,h3,h4,h5⟩:=hb;exact⟨es2,ck2,dZ,td,rfl,h1,h2,h3,h4,h5⟩
include ok aU in
theorem aS8{v:xM}(h:Sx E sq A t m k=some (v,A'))(inv:Inv w0 E.G β A w)(hm:aj β m m')(hk:aj β k k'):jH w0 E.G β A ((Instr.mapEntry t m' k').run P w) v A'/\A.next<=A'.next:=by
 unfold Sx at h;split at h;rotate_left
 ·cases h
 rename_i kt et _ _ _ _ B hr;have hu:=(ok.ti t _ hr).1;split at h;rotate_left
 ·cases h
 rename_i ks fU c es ex ty nd rt dS hg hz ht;split at h;rotate_left
 ·cases h
 rename_i y gX st gu;replace h:=aC h;rcases h with⟨hb,h⟩|⟨_,h⟩;rotate_left
 ·cases h
 cases h;simp only [xf] at hb;obtain⟨⟨⟨⟨⟨b1,b2⟩,b3⟩,b4⟩,b6⟩,b5⟩:=hb;have jE:=qS _ _ b1;subst jE;have eN:=qb b2;have ez:=rM _ _ b3;have jL:=xh b5;have hq:bY β.d nd:=ok.q _ _ (inv.dX nd Ns);unfold bY at hq;rw[eN] at hq;obtain⟨ds,dd,q1,q2,q3⟩:=hq;rw[ez] at q1;rw[gu] at q2;obtain⟨dm,dk,rfl,e1,e2⟩:=jj q1;obtain⟨cy,rfl⟩:=rG b4;obtain⟨co,rfl⟩:=rG b6;cases hm with
 |map _ l hl=>
  obtain⟨ae,ck,rows,td,g1,g2,pj,g3,g4,g5⟩:=inv.cont B _ l hg hl;have Bz:td=none:=by cases td with|none=>rfl|some p=>exact pj.elim
  subst Bz;rw[lE g2] at e1;cases e1;have aJ:Na ks (.sl rows) dk=some dd:=q3;unfold Na at aJ;split at aJ;rotate_left
  ·cases aJ
  rename_i iC kd iE;cases iE;split at aJ;rotate_left
  ·cases aJ
  rename_i jF;obtain⟨us,bH⟩:=Option.isSome_iff_exists.1 jF;have fO:=fx e2 hk;cases fO with
  |agg _ iJ ni gp=>
  have iX:=zY ks kd us iJ bH ni gp;subst iX;obtain⟨r',f1,f2,f3,f4,f5⟩:=Vz (P:=P) ok aU dS bH g3.K4 g3.LU w;have ja:(getObj l.b).run P w= .ok (.map ⟨ae⟩ ck) w:=by simp[getObj,Sem.run,g1]
  have i2:=inv.pop (r:=rt) (fun x hx=>Ns);have mq:∀a b c,dd= .agg [a,b,c]->β.d cy=some a/\β.d co=some b/\eE β.d st=some c:=fun a b c hd=>by
   rw[hd] at q2;obtain⟨T8,Bc,Bb⟩:=xp.1 (show(aH (eE β.d) [.chan (some (cy+1)),.chan (some (co+1)),st]).map D.agg=_ from q2);cases Bb;obtain⟨a',b',c',e,r1,r2,r3⟩:=IC Bc;cases e;exact⟨(jO (show iF β.d (.chan (some (cy+1)))=_ from r1)).1,(jO (show iF β.d (.chan (some (co+1)))=_ from r2)).1,r3⟩
  have qL:∀dZ,β.d cy=some (.sl dZ)->aX β.d (.chan (some (cy+1)))=some (.sl dZ):=fun dZ hh=>by
   show(β.d cy).bind _=_;rw[hh];rfl
  have HR:(A.pop rt).get B=some ⟨.gA ks c none,es,ex,false,ty⟩:=hg;have kP:∀z,((A.pop rt).put B z).next=A.next:=fun _=>rfl
  have Mo:∀z:aG,((A.pop rt).put B (some z)).get B=some z:=fun z=>by
   rcases(A.pop rt).gd B (some z) B with⟨e,_⟩|⟨e,_⟩|⟨_,e⟩
   ·exact e
   ·rcases T.tz none A.heap B (some z) with e2|⟨_,e2⟩
    ·exact e2
    ·exfalso;have:A.heap.get none B=none:=e2;rw[show A.heap.get none B=A.get B from rfl,hg] at this;cases this
   grind
  cases dT:cT kd rows with
  |none=>
   rw[dT] at aJ;cases aJ;obtain⟨r1,r2,r3⟩:=mq _ _ _ rfl;have cF:=f2 dT;subst cF;obtain⟨z',mD,fV⟩:=I4 (P:=P) ok hz w;have sQ:z'= .slice none 0 0:=by have:=fV β;cases this;rfl
   subst sQ;have bF2:∀(i:Nat) (r:Di),rows[i]? =some r->r[0]?≠some (.agg kd):=fun i r hi he=>by
    have aL:i<ae.length:=by rw[<-g3.len];exact(xe.1 hi).1
    obtain⟨ds,vs,d,rfl,hf,_⟩:=g3.row i r _ hi (xc aL);have h0:=wZ dT i _ hi
    grind [kf,xS]
   obtain⟨aW,cM⟩:=i2.Pr (P:=P) HR rfl hl jL (es2:=ae++[⟨.agg ⟨iJ⟩,.slice none 0 0,ck⟩]) (ck2:=ck+1) g1 (ks:=ks) (y:= .chan (some (cy+1))) (tk:=none) (es:=es) (ex:=ex) (ty:=ty)
    ⟨_,none,qL _ r1,trivial,g3.lU (β':=β) (j:=rows.length) (kd:=kd) (d:=eT) (ej:=⟨.agg ⟨iJ⟩,.slice none 0 0,ck⟩) (by simp[g3.len]) (fun i r e hi h1 h2=>by
     by_cases bm:i<rows.length
     ·rw[xw bm] at h1;rw[xw (by grind [g3.len])] at h2
      grind
     grind) NS (by rw[g3.len];simp) bH rfl (.inl ⟨rfl,fun B e=>by cases e⟩) (fun B k e=>by cases e) (fun i r hi h1=>by
     grind) (fun _ _ _ _ _ _ _ _ h=>h) (fun h=>absurd rfl h),by simp[g4],NE g4 g5⟩
   obtain⟨β',i3,g6,wh,_⟩:=cM.Om (Mo _) hl (co:=co) (rs:=[]) r2 (v:= .slice none 0 0) (.inl ⟨rfl,rfl⟩) (fun es2 ck2 dZ _ _ i r e _ _ _ c _ h=>by cases h);have RJ:ck=rows.length:=by rw[g4,g3.len]
   refine⟨⟨β',.tuple #[.slice none 0 0,goInt ck],_,?_,aj.rK ((aZ.nil β').cons (rL (by rw[g6.d];exact r3) (by rw[RJ];exact .int _ _))|>.cons wh),i3,g6⟩,Nat.le_succ _⟩;have Da:(⟨ae⟩:LH).push ⟨.agg ⟨iJ⟩,.slice none 0 0,ck⟩=⟨ae++[⟨.agg ⟨iJ⟩,.slice none 0 0,ck⟩]⟩:=by apply Array.ext';simp
   simp only [Instr.mapEntry,Sem.run_bind,run_underlying hu,ja,f4,f1,Result.andThen_ok,mD]
   simp_all
  |some j0=>
   rw[dT] at aJ;simp only at aJ;split at aJ;rotate_left
   ·cases aJ
   rename_i k0 rs gH;cases aJ;obtain⟨r1,r2,r3⟩:=mq _ _ _ rfl;obtain⟨d0,yu⟩:=IX bH dT (fun i r hi=>by
    have aL:i<ae.length:=by rw[<-g3.len];exact(xe.1 hi).1
    obtain⟨ds,vs,d,x,hf,_⟩:=g3.row i r _ hi (xc aL)
    grind)
   rw[gH] at yu;cases yu;have jJ:j0<rows.length:=(xe.1 gH).1;have fH:j0<ae.length:=by rw[<-g3.len];exact jJ
   have cw:ae[j0]? =some ae[j0]:=xc fH;obtain⟨wM,ul,d0,bE,oG,pH,Et⟩:=g3.row j0 _ _ gH cw;cases bE;rw[bH] at oG;cases oG;have DN:lQ β l.b es ty rs ae[j0].val:=by
    rcases Et with⟨e,_⟩|⟨Bq,e,q⟩
    ·cases e
    ·grind
   obtain⟨v1,cF,lX⟩:=f3 j0 dT;have Rs:=lX _ _ cw gH Ns;subst cF Rs;have TD:=g5 j0 _ cw;have Xy:∀(i:Nat) (r:Di) (e:MapEntry),i≠j0->(rows.set j0 [.agg kd,eT])[i]? =some r->(ae.set j0 ⟨.agg ⟨iJ⟩,ae[j0].val,ae[j0].born⟩)[i]? =some e->rows[i]? =some r/\∃e0,ae[i]? =some e0/\e.key=e0.key/\e.val=e0.val:=fun i r e hi h1 h2=>by
    grind
   obtain⟨aW,cM⟩:=i2.Pr (P:=P) HR rfl hl jL (es2:=ae.set j0 ⟨.agg ⟨iJ⟩,ae[j0].val,ae[j0].born⟩) (ck2:=ck) g1 (ks:=ks) (y:= .chan (some (cy+1))) (tk:=none) (es:=es) (ex:=ex) (ty:=ty)
    ⟨_,none,qL _ r1,trivial,g3.lU (β':=β) (j:=j0) (kd:=kd) (d:=eT) (ej:=⟨.agg ⟨iJ⟩,ae[j0].val,ae[j0].born⟩) (by simp[g3.len]) Xy (List.getElem?_set_self jJ) (List.getElem?_set_self fH) bH rfl (.inl ⟨rfl,fun B e=>by cases e⟩) (fun B k e=>by cases e) (fun i r hi h1 he=>by
     rw[List.getElem?_set_ne (Ne.symm hi)] at h1
     grind [g3.key]) (fun _ _ _ _ _ _ _ _ h=>h) (fun h=>absurd rfl h),by simp[g4],Fs g5 cw⟩
   obtain⟨β',i3,g6,wh,_⟩:=cM.Om (Mo _) hl (co:=co) (rs:=rs) r2 (v:=ae[j0].val) DN (fun es2 ck2 dZ hh hd i r e h1 h2 h3 cc jw bM=>by
    have hh':(w.heap.setIfInBounds l.b (.map ⟨ae.set j0 ⟨.agg ⟨iJ⟩,ae[j0].val,ae[j0].born⟩⟩ ck))[l.b]? =some (.map ⟨es2⟩ ck2):=hh;rw[Array.getElem?_setIfInBounds_self_of_lt (Array.getElem?_eq_some_iff.1 g1).1] at hh';cases hh';rw[qL _ r1] at hd;cases hd;by_cases hi:i=j0
    ·grind
    ·obtain⟨x1,e0,x2,x3,x4⟩:=Xy i r e hi h1 h3;exact hi (g3.inj i j0 r _ e0 _ cc x1 gH h2 Ns x2 cw Ns bM))
   refine⟨⟨β',.tuple #[ae[j0].val,goInt j0],_,?_,aj.rK ((aZ.nil β').cons (rL (by rw[g6.d];exact r3) (.int _ _))|>.cons wh),i3,g6⟩,Nat.le_succ _⟩;have A8:=B9 cw (fun e=>{e with key:= .agg ⟨iJ⟩});have A9:(Instr.keyThatStays ((((⟨ae⟩:LH)[j0]?).map (·.key)).getD (.agg ⟨iJ⟩)) (.agg ⟨iJ⟩)).run P w= .ok (.agg ⟨iJ⟩) w:=by
    have:(((⟨ae⟩:LH)[j0]?).map (·.key)).getD (.agg ⟨iJ⟩)= .agg ⟨iJ⟩:=by simp[cw,pH]
    rw[this];simp[Instr.keyThatStays,f5]
   have ze:(((⟨ae⟩:LH)[j0]?).map (fun x=>(x.born:Int))).getD 0=(j0:Int):=by simp[cw,TD]
   simp only [Instr.mapEntry,Sem.run_bind,run_underlying hu,ja,f4,f1,Result.andThen_ok,A9,ze]
   simp_all
theorem M5{C:Nat}{o:Option aG}(h:B≠C):(A.put B o).get C=A.get C:=T.tA none A.heap _ _ _ h
theorem UG{o:Option aG}{b:aG}(h:A.get B=some b):(A.put B o).get B=o:=by
 rcases A.gd B o B with⟨e,_⟩|⟨e,_⟩|⟨_,e⟩
 ·exact e
 ·rcases T.tz none A.heap B o with e2|⟨_,e2⟩
  ·exact e2
  ·exfalso;have:A.heap.get none B=none:=e2;rw[show A.heap.get none B=A.get B from rfl,h] at this;cases this
 grind
theorem Inv.XB(inv:Inv w0 G β A w){B2:Nat}{u:xM}(ob:Nat)(hg:A.get B2=some ⟨.own u,es,ex,false,ty⟩)(hG:G.n<=B2){v:xM}(hv:β.o B2=some v):
 ∃β' rows,Inv w0 G β' (A.put B2 none) w/\(∀n,β.grow β' n)/\aX β.d u=some (.sl rows)/\lQ β' ob es ty rows v/\(∀b h,β.y b=some h->β'.y b=some h)/\∀c,tR v=some c->β.y c=none:=by
 obtain⟨rows,h1,h2⟩:=inv.own B2 _ hg;rcases h2 with⟨rfl,ho⟩|⟨l,cap,hl,ho,h3,h4,h5⟩
 ·rw[hv] at ho;cases ho;exact⟨β,[],inv.kill B2,fun n=>ai.dg _ _,h1,.inl ⟨rfl,rfl⟩,fun _ _ h=>h,fun c h=>by cases h⟩
 ·rw[hv] at ho;cases ho;obtain⟨aB,Kb,c1,c2,c3,c4,c5,c6,c7⟩:=inv.cont B2 _ l hg hl;rw[h1] at c3;cases c3;have S8:=inv.FN hl (by rw[hg];rfl);have h5':l.es=es:=h5;refine⟨_,rows,inv.bz5 ob hg rfl hl hG c1,fun n=>aH0 _ _ n,h1,.inr ⟨l.b,l.d,cap,_,rfl,by rw[Kv,if_pos rfl],rfl,rfl,h3,Ns,fun row hr=>Ns,fun i row j d x y=>by rw[<-h5'];exact c7 i row j d x y⟩,fun b h e=> ?_,fun c h=> ?_⟩
  ·rw[Kv,if_neg (fun e2=>Ns)];exact e
  ·cases h;exact S8
include ok in
theorem aS6{s s' v v':xM}(h:Sv E A m s v=some A')(inv:Inv w0 E.G β A w)(hm:aj β m m')(hs:aj β s s')(hv:aj β v v'):∃β' w',(Instr.entryStore t m' s' v').run P w= .ok () w'/\Inv w0 E.G β' A' w'/\β.grow β' A.next/\A.next<=A'.next:=by
 unfold Sv at h;split at h;rotate_left
 ·cases h
 rename_i B B2 cv;split at h;rotate_left
 ·cases h
 rename_i ks c es ex ty c2 es2 wJ pQ hg gx;replace h:=aC h;rcases h with⟨hb,h⟩|⟨_,h⟩;rotate_left
 ·cases h
 simp only [xf] at hb;obtain⟨⟨⟨b1,b2⟩,b3⟩,b4⟩:=hb;have hG:=xh b1;have TL:=xh b2;obtain rfl:=xb b3;obtain rfl:=xb b4;split at h;rotate_left
 ·cases h
 rename_i u A1 eC;cases h;have bo:B2≠B:=fun e=>Ns
 obtain⟨nd,rt,cu,ht,eN,ez,gu,rfl,rfl⟩:=nW eC;have hq:bY β.d nd:=ok.q _ _ (inv.dX nd Ns);unfold bY at hq;rw[eN] at hq;obtain⟨ds,dd,q1,q2,q3⟩:=hq;rw[ez] at q1;rw[gu] at q2;obtain⟨q4,q5⟩:=jO q2;obtain⟨dm,dk,dv,rfl,e1,e2,e3⟩:=IC q1;have i2:=inv.pop (r:=rt) (fun x hx=>Ns);cases hm with
 |map _ l hl=>
  have Ta:β.o B2=some v':=by
   cases hv with
   |own _ _ rows a cap h ha hd=>exact h
  obtain⟨β',rs,i3,g6,fJ,DN,L8,hyn⟩:=i2.XB l.b gx TL Ta;rw[lE fJ] at e3;cases e3;obtain⟨ae,ck,rows,td,g1,g2,pj,g3,g4,g5⟩:=inv.cont B _ l hg hl;have Bz:td=none:=by cases td with|none=>rfl|some p=>exact pj.elim
  subst Bz;rw[lE g2] at e1;cases e1;have aJ:EZ (.sl rows) dk (.sl rs)=some dd:=q3;unfold EZ at aJ;split at aJ;rotate_left
  ·cases aJ
  rename_i iC j0 iE;cases iE;split at aJ;rotate_left
  ·cases aJ
  rename_i k0 od gH;rw[if_pos (show(D.sl rs).cell=true from rfl)] at aJ;cases aJ;have cJ:=fx e2 hs;cases cJ;have jJ:j0<rows.length:=(xe.1 gH).1;have fH:j0<ae.length:=by rw[<-g3.len];exact jJ
  have cw:ae[j0]? =some ae[j0]:=xc fH;obtain⟨kd,us,d0,bE,oG,pH,Et⟩:=g3.row j0 _ _ gH cw;cases bE;have ja:(getObj l.b).run P w= .ok (.map ⟨ae⟩ ck) w:=by simp[getObj,Sem.run,g1]
  have dK:β' B=some l:=((g6 (A.next)).f B (inv.ft B l hl)).trans hl;obtain⟨aW,cM⟩:=i3.Pr (P:=P) (by rw[M5 bo];exact hg) rfl dK hG (es2:=ae.set j0 ⟨ae[j0].key,v',ae[j0].born⟩) (ck2:=ck) g1 (ks:=ks) (y:= .chan (some (cu+1))) (tk:=none) (es:=es) (ex:=ex) (ty:=ty)
   ⟨_,none,by rw[(g6 A.next).d];show(β.d cu).bind _=_;rw[q4];rfl,trivial,g3.lU (β':=β') (j:=j0) (kd:=kd) (d:= .sl rs) (ej:=⟨ae[j0].key,v',ae[j0].born⟩) (by simp[g3.len]) (fun i r e hi h1 h2=>by
    grind) (List.getElem?_set_self jJ) (List.getElem?_set_self fH) oG pH (.inr ⟨rs,rfl,DN⟩) (fun B k e=>by cases e) (fun i r hi h1 he=>by
    rw[List.getElem?_set_ne (Ne.symm hi)] at h1
    grind [g3.key]) (fun i r Bq e hi h1 h2 h3 hq=>hq.mono (g6 A.next).z (fun c h e1 _=>L8 c h e1)) (fun _ i r e c hi h1 h2 h3 jw bM=>by
    obtain⟨ds,vs,d,x1,_,_,x4⟩:=g3.row i r e h1 h3;rcases x4 with⟨p,_⟩|⟨Bq,_,q⟩
    ·grind
    ·rcases q with⟨_,ov⟩|⟨c',off,cap,hh,ov,hy1,_⟩
     ·rw[ov] at jw;cases jw
     ·rw[ov] at jw;cases jw
      grind),by simp[g4],Fs g5 cw⟩
  refine⟨β',_,?_,cM,g6 _,xk _⟩;have A8:=B9 cw (fun e=>{e with val:=v'});have DM:=VG g5 fH
  grind [Instr.entryStore,Sem.run_bind,Result.andThen_ok,asInt,asIntOf,Sem.run_pure]
include ok aU in
theorem aR3{v:xM}(h:RP E sq A t m k=some (v,A'))(inv:Inv w0 E.G β A w)(hm:aj β m m')(hk:aj β k k'):jH w0 E.G β A ((Instr.lookup t m' k' false).run P w) v A'/\A.next<=A'.next:=by
 unfold RP at h;split at h;rotate_left
 ·cases h
 rename_i kt et _ _ _ _ B hr;have hu:=(ok.ti t _ hr).1;split at h;rotate_left
 ·cases h
 rename_i ks fU c es ex ty nd rt dS hg hz ht;split at h;rotate_left
 ·cases h
 rename_i y gX kl gu;replace h:=aC h;rcases h with⟨hb,h⟩|⟨_,h⟩;rotate_left
 ·cases h
 cases h;simp only [xf] at hb;obtain⟨⟨⟨⟨⟨b1,b2⟩,b3⟩,b4⟩,b6⟩,b5⟩:=hb;have jE:=qS _ _ b1;subst jE;have eN:=qb b2;have ez:=rM _ _ b3;have jL:=xh b5;have hq:bY β.d nd:=ok.q _ _ (inv.dX nd Ns);unfold bY at hq;rw[eN] at hq;obtain⟨ds,dd,q1,q2,q3⟩:=hq;rw[ez] at q1;rw[gu] at q2;obtain⟨dm,dk,rfl,e1,e2⟩:=jj q1;obtain⟨cy,rfl⟩:=rG b4;obtain⟨co,rfl⟩:=rG b6;cases hm with
 |map _ l hl=>
  obtain⟨ae,ck,rows,td,g1,g2,pj,g3,g4,g5⟩:=inv.cont B _ l hg hl;have Bz:td=none:=by cases td with|none=>rfl|some p=>exact pj.elim
  subst Bz;rw[lE g2] at e1;cases e1;have aJ:M9 ks (.sl rows) dk=some dd:=q3;unfold M9 at aJ;split at aJ;rotate_left
  ·cases aJ
  rename_i iC kd iE;cases iE;split at aJ;rotate_left
  ·cases aJ
  rename_i jF;obtain⟨us,bH⟩:=Option.isSome_iff_exists.1 jF;have fO:=fx e2 hk;have Eo:aH (aX β.d) kl=some kd:=by
   obtain⟨x,h1,h2⟩:=xp.1 (show(aH (aX β.d) kl).map D.agg=_ from e2);cases h2;exact h1
  cases fO with
  |agg _ iJ ni gp=>
  have iX:=zY ks kd us iJ bH ni gp;subst iX;obtain⟨r',f1,f2,f3,f4,f5⟩:=Vz (P:=P) ok aU dS bH g3.K4 g3.LU w;have ja:(getObj l.b).run P w= .ok (.map ⟨ae⟩ ck) w:=by simp[getObj,Sem.run,g1]
  have i2:=inv.pop (r:=rt) (fun x hx=>Ns);have mq:∀a b,dd= .agg [a,b]->β.d cy=some a/\β.d co=some b:=fun a b hd=>by
   rw[hd] at q2;obtain⟨T8,Bc,Bb⟩:=xp.1 (show(aH (eE β.d) [.chan (some (cy+1)),.chan (some (co+1))]).map D.agg=_ from q2);cases Bb;obtain⟨a',b',e,r1,r2⟩:=jj Bc;cases e;exact⟨(jO (show iF β.d (.chan (some (cy+1)))=_ from r1)).1,(jO (show iF β.d (.chan (some (co+1)))=_ from r2)).1⟩
  have qL:∀dZ,β.d cy=some (.sl dZ)->aX β.d (.chan (some (cy+1)))=some (.sl dZ):=fun dZ hh=>by
   show(β.d cy).bind _=_;rw[hh];rfl
  have HR:(A.pop rt).get B=some ⟨.gA ks c none,es,ex,false,ty⟩:=hg;have nU:B<A.next:=inv.ft B l hl;have fin:∀(dZ:Ca) (rs:Ca) (v1:xM),β.d cy=some (.sl dZ)->β.d co=some (.sl rs)->lQ β l.b es ty rs v1->lP β l.b es ty ks none dZ ae->(∀(i:Nat) (r:Di) (e:MapEntry),dZ[i]? =some r->r[1]?≠some eT->ae[i]? =some e->∀c,tR e.val=some c->tR v1≠some c)->
   (∀(i:Nat) (r:Di) (e:MapEntry),dZ[i]? =some r->r[0]? =some (.agg kd)->ae[i]? =some e->e.val=v1)->∃β',Inv w0 E.G β' ((((A.pop rt).put B (some ⟨.gA ks (.chan (some (cy+1))) none,es,ex,false,ty⟩)).add ⟨.own (.chan (some (co+1))),es,false,false,ty⟩).put B (some ⟨.gA ks (.chan (some (cy+1))) (some (A.next,kl)),es,ex,false,ty⟩)) w/\β.grow β' A.next/\aj β' (.iface A.next (.chan (some (co+1)))) v1:=by
   intro dZ rs v1 r1 r2 hh hmo Zx mF;have i3:Inv w0 E.G β ((A.pop rt).put B (some ⟨.gA ks (.chan (some (cy+1))) none,es,ex,false,ty⟩)) w:=i2.write B l _ _ HR hl jL ⟨rfl,rfl,rfl,xk _,fun _ _ _=>rfl⟩ rfl ⟨ae,ck,dZ,none,g1,qL _ r1,trivial,hmo,g4,g5⟩;obtain⟨β',i4,g6,wh,y7⟩:=i3.Om (UG HR) hl (co:=co) (rs:=rs) r2 (v:=v1) hh (fun es2 ck2 P8 hh hd i r e h1 h2 h3=>by
    grind)
   have HK:β' B=some l:=(g6.f B nU).trans hl;have hg4:(((A.pop rt).put B (some ⟨.gA ks (.chan (some (cy+1))) none,es,ex,false,ty⟩)).add ⟨.own (.chan (some (co+1))),es,false,false,ty⟩).get B=some ⟨.gA ks (.chan (some (cy+1))) none,es,ex,false,ty⟩:=by
    rcases((A.pop rt).put B (some ⟨.gA ks (.chan (some (cy+1))) none,es,ex,false,ty⟩)).mR ⟨.own (.chan (some (co+1))),es,false,false,ty⟩ (i3.du _ (xk _)) B with⟨_,e⟩|e
    ·exact absurd e (Nat.ne_of_lt nU)
    ·grind [UG]
   obtain⟨es5,ck5,bU7,hM,p1,p2,p3,p4,p5⟩:=i4.cont B _ l hg4 HK;rw[g1] at p1;cases p1;rw[g6.d,qL _ r1] at p2;cases p2;have Bz:hM=none:=by cases hM with|none=>rfl|some p=>exact p3.elim
   subst Bz;refine⟨β',i4.write B l _ _ hg4 HK jL ⟨rfl,rfl,rfl,xk _,fun _ _ _=>rfl⟩ rfl ⟨ae,ck,dZ,some (A.next,kd),g1,by grind [g6.d],⟨rfl,by grind [g6.d]⟩,⟨p4.len,fun i row e a1 a2=> ?_,p4.inj,p4.key⟩,p5⟩,g6,wh⟩;obtain⟨ds,vs,d,x1,x2,x3,x4⟩:=p4.row i row e a1 a2;refine⟨ds,vs,d,x1,x2,x3,x4.imp (fun⟨p,_⟩=>⟨p,fun B' e'=> ?_⟩) id⟩;cases e';rw[mF i row e a1 (by rw[x1];rfl) a2];exact y7
  cases dT:cT kd rows with
  |none=>
   rw[dT] at aJ;cases aJ;obtain⟨r1,r2⟩:=mq _ _ rfl;have cF:=f2 dT;subst cF;obtain⟨z',mD,fV⟩:=I4 (P:=P) ok hz w;have sQ:z'= .slice none 0 0:=by have:=fV β;cases this;rfl
   subst sQ;obtain⟨β',i5,g6,wh⟩:=fin rows [] (.slice none 0 0) r1 r2 (.inl ⟨rfl,rfl⟩) g3 (fun _ _ _ _ _ _ _ _ h=>by cases h) (fun i r e hi he h3=>by
    exfalso;obtain⟨ds,vs,d,x1,hf,_⟩:=g3.row i r _ hi h3;have h0:=wZ dT i _ hi
    grind [kf,xS])
   refine⟨⟨β',.slice none 0 0,w,?_,wh,i5,g6⟩,Nat.le_succ _⟩;simp[Instr.lookup,run_underlying hu,f4,f1,mD,getObj,Sem.run,g1]
  |some j0=>
   rw[dT] at aJ;simp only at aJ;split at aJ;rotate_left
   ·cases aJ
   rename_i k0 rs gH;cases aJ;obtain⟨r1,r2⟩:=mq _ _ rfl;obtain⟨d0,yu⟩:=IX bH dT (fun i r hi=>by
    have aL:i<ae.length:=by rw[<-g3.len];exact(xe.1 hi).1
    obtain⟨ds,vs,d,x,hf,_⟩:=g3.row i r _ hi (xc aL)
    grind)
   rw[gH] at yu;cases yu;have jJ:j0<rows.length:=(xe.1 gH).1;have fH:j0<ae.length:=by rw[<-g3.len];exact jJ
   have cw:ae[j0]? =some ae[j0]:=xc fH;obtain⟨wM,ul,d0,bE,oG,pH,Et⟩:=g3.row j0 _ _ gH cw;cases bE;rw[bH] at oG;cases oG;have DN:lQ β l.b es ty rs ae[j0].val:=by
    rcases Et with⟨e,_⟩|⟨Bq,e,q⟩
    ·cases e
    ·grind
   obtain⟨v1,cF,lX⟩:=f3 j0 dT;have Rs:=lX _ _ cw gH Ns;subst cF Rs;have kE:∀(i:Nat) (r:Di),i≠j0->(rows.set j0 [.agg kd,eT])[i]? =some r->rows[i]? =some r:=fun i r hi h1=>Ns
   obtain⟨β',i5,g6,wh⟩:=fin (rows.set j0 [.agg kd,eT]) rs ae[j0].val r1 r2 DN (g3.lU (β':=β) (j:=j0) (kd:=kd) (d:=eT) (ej:=ae[j0]) (by simp[g3.len]) (fun i r e hi h1 h2=>⟨kE i r hi h1,e,h2,rfl,rfl⟩) (List.getElem?_set_self jJ) cw bH pH (.inl ⟨rfl,fun B e=>by cases e⟩) (fun B k e=>by cases e) (fun i r hi h1 he=>hi (g3.key i j0 r _ (kE i r hi h1) gH (by rw[he];rfl))) (fun _ _ _ _ _ _ _ _ h=>h) (fun h=>absurd rfl h))
    (fun i r e h1 h2 h3 cc jw bM=>by
     by_cases hi:i=j0
     ·grind
     ·exact hi (g3.inj i j0 r _ e _ cc (kE i r hi h1) gH h2 Ns h3 cw jw bM))
    (fun i r e h1 he h3=>by
     grind [absurd,g3.key])
   refine⟨⟨β',ae[j0].val,w,?_,wh,i5,g6⟩,Nat.le_succ _⟩;simp[Instr.lookup,run_underlying hu,f4,f1,getObj,Sem.run,g1]
theorem ay2(bH:fc ks kd=some us){iC:Ca}(hp:List.Perm rows iC)(hr:∀r∈iC,∃ds vs d,r=[.agg ds,d]/\fc ks ds=some vs)(hk:∀(i j:Nat) (r r':Di),iC[i]? =some r->iC[j]? =some r'->r[0]? =r'[0]?->i=j):jG kd rows=jG kd iC:=by
 have Ug:∀{l:Ca},(∀r∈l,∃ds vs d,r=[.agg ds,d]/\fc ks ds=some vs)->∀{o},jG kd l=some o->[.agg kd,o]∈l:=fun{l} hl {o} ho=>by
  cases dT:cT kd l with
  |none=>grind [II]
  |some j=>
   obtain⟨row,h1,h2,h3⟩:=zH dT;obtain⟨d,h4⟩:=IX bH dT (fun i r hi=>hl r (xu hi))
   grind
 have at2:∀{l:Ca} {o},[.agg kd,o]∈l->∃o',jG kd l=some o':=fun{l o} h=>by
  cases dT:cT kd l with
  |none=>
   obtain⟨i,hi⟩:=List.mem_iff_getElem?.1 h;have:=wZ dT i _ hi
   grind [kf,xS]
  |some j=>
   obtain⟨row,h1,h2,h3⟩:=zH dT;cases row with
   |nil=>cases h3
   |cons a row=>cases row with
    |nil=>cases a<;>cases h3
    |cons b row=>grind
 have cF:∀r∈rows,∃ds vs d,r=[.agg ds,d]/\fc ks ds=some vs:=fun r h=>hr r (hp.mem_iff.1 h)
 cases ha:jG kd rows with
 |none=>
  cases hb:jG kd iC with
  |none=>rfl
  |some o=>
   grind
 |some o=>
  obtain⟨o',hb⟩:=at2 (hp.mem_iff.1 (Ug cF ha));rw[hb];obtain⟨i,hi⟩:=List.mem_iff_getElem?.1 (hp.mem_iff.1 (Ug cF ha));obtain⟨j,hj⟩:=List.mem_iff_getElem?.1 (Ug hr hb)
  grind
def RR(E:az)(sq:Cf)(A:AW)(t:xN)(m k:xM):Im:=
 match E.ti.get none t,m with
 |some ⟨.map kt et,_,_,_,_⟩,.map (some B)=>match ib sq kt,A.get B,x8 E et,A.tape with
  |some ks,some ⟨.rk fU c,_,_,_,_⟩,some z,nd::r=>bs (mf ks fU&&n7 nd.k (.u5 ks)&&ri nd.args [c,k,z]) (some (nd.res,A.pop r)) none
  |_,_,_,_=>none
 |_,_=>none
include ok aU in
theorem aR4{v:xM}(h:RR E sq A t m k=some (v,A'))(inv:Inv w0 E.G β A w)(hm:aj β m m')(hk:aj β k k'):jH w0 E.G β A ((Instr.lookup t m' k' false).run P w) v A'/\A.next<=A'.next:=by
 unfold RR at h;split at h;rotate_left
 ·cases h
 rename_i kt et _ _ _ _ B hr;have hu:=(ok.ti t _ hr).1;split at h;rotate_left
 ·cases h
 rename_i ks fU c a b d ty z nd r dS hg hz ht;replace h:=aC h;rcases h with⟨hb,h⟩|⟨_,h⟩;rotate_left
 ·cases h
 cases h;simp only [xf] at hb;obtain⟨⟨b1,b2⟩,b3⟩:=hb;have jE:=qS _ _ b1;subst jE;have eN:=qb b2;have ez:=rM _ _ b3;have hq:bY β.d nd:=ok.q _ _ (inv.dX nd Ns);unfold bY at hq;rw[eN] at hq;obtain⟨ds,dd,q1,q2,q3⟩:=hq;rw[ez] at q1;obtain⟨dm,dk,dz,rfl,e1,e2,e3⟩:=IC q1;have i2:=inv.pop (r:=r) (fun x hx=>Ns);cases hm with
 |map _ l hl=>
  obtain⟨ae,ck,rows,g1,g2,iC,g3,g4,g5⟩:=inv.cont B _ l hg hl;rw[lE g2] at e1;cases e1;have aJ:E6 ks (.sl rows) dk dz=some dd:=q3;unfold E6 at aJ;split at aJ;rotate_left
  ·cases aJ
  rename_i Gk kd iE;cases iE;split at aJ;rotate_left
  ·cases aJ
  rename_i jF;obtain⟨vs,bH⟩:=Option.isSome_iff_exists.1 jF;cases aJ;have fO:=fx e2 hk;cases fO with
  |agg _ us ni gp=>
  have iX:=zY ks kd vs us bH ni gp;subst iX;rw[ay2 bH g3 (fun r h=>by
   obtain⟨i,hi⟩:=List.mem_iff_getElem?.1 h;have aL:i<ae.length:=by rw[<-g4.1];exact(xe.1 hi).1
   obtain⟨ds,vs,d,x,y,_⟩:=g4.2 i r _ hi (xc aL)
   grind) g5] at q2
  obtain⟨v',h1,h2⟩:=Wf (P:=P) ok aU hu dS hz e3 g1 g4 bH (.inl q2);exact⟨⟨β,v',w,h1,h2,i2,ai.dg _ _⟩,xk _⟩
def E2(E:az)(sq:Cf)(A:AW)(t:xN)(m k:xM):Im:=
 match E.ti.get none t,m with
 |some ⟨.map kt et,_,_,_,_⟩,.map (some B)=>match ib sq kt,A.get B,x8 E et,A.tape with
  |some ks,some ⟨.rk fU c,_,_,_,_⟩,some z,nd::r=>bs (mf ks fU&&n7 nd.k (.ko ks)&&ri nd.args [c,k,z]) (match nd.res with| .bool true=>RR E sq (A.pop r) t m k| .bool false=>some (z,A.pop r)|_=>none) none
  |_,_,_,_=>none
 |_,_=>none
include ok aU in
theorem Ml{v:xM}(h:E2 E sq A t m k=some (v,A'))(inv:Inv w0 E.G β A w)(hm:aj β m m')(hk:aj β k k'):jH w0 E.G β A ((Instr.lookup t m' k' false).run P w) v A'/\A.next<=A'.next:=by
 unfold E2 at h;split at h;rotate_left
 ·cases h
 rename_i kt et _ _ _ _ B hr;have hu:=(ok.ti t _ hr).1;split at h;rotate_left
 ·cases h
 rename_i ks fU c a b d ty z nd r dS hg hz ht;replace h:=aC h;rcases h with⟨hb,h⟩|⟨_,h⟩;rotate_left
 ·cases h
 have i2:=inv.pop (r:=r) (fun x hx=>Ns);split at h
 ·have:=aR4 ok aU h i2 hm hk;exact this
 rotate_left
 ·cases h
 rename_i mq;cases h;simp only [xf] at hb;obtain⟨⟨b1,b2⟩,b3⟩:=hb;have jE:=qS _ _ b1;subst jE;have eN:=qb b2;have ez:=rM _ _ b3;have hq:bY β.d nd:=ok.q _ _ (inv.dX nd Ns);unfold bY at hq;rw[eN] at hq;obtain⟨ds,dd,q1,q2,q3⟩:=hq;rw[ez] at q1;rw[mq] at q2;cases q2;obtain⟨dm,dk,dz,rfl,e1,e2,e3⟩:=IC q1;cases hm with
 |map _ l hl=>
  obtain⟨ae,ck,rows,g1,g2,iC,g3,g4,g5⟩:=inv.cont B _ l hg hl;rw[lE g2] at e1;cases e1;have aJ:yx ks (.sl rows) dk dz=some (.bool false):=q3;unfold yx at aJ;split at aJ;rotate_left
  ·cases aJ
  rename_i Gk kd iE;cases iE;split at aJ;rotate_left
  ·cases aJ
  rename_i jF;obtain⟨vs,bH⟩:=Option.isSome_iff_exists.1 jF;have jh:jG kd rows=none:=by simpa using aJ
  have fO:=fx e2 hk;cases fO with
  |agg _ us ni gp=>
  have iX:=zY ks kd vs us bH ni gp;subst iX;rw[ay2 bH g3 (fun r h=>by
   obtain⟨i,hi⟩:=List.mem_iff_getElem?.1 h;have aL:i<ae.length:=by rw[<-g4.1];exact(xe.1 hi).1
   obtain⟨ds,vs,d,x,y,_⟩:=g4.2 i r _ hi (xc aL)
   grind) g5] at jh
  obtain⟨v',h1,h2⟩:=Wf (P:=P) ok aU hu dS hz e3 g1 g4 bH (.inr ⟨rfl,jh⟩);exact⟨⟨β,v',w,h1,h2,i2,ai.dg _ _⟩,xk _⟩
def Ec(x y:Option α):Option α:=match x with|some a=>some a|none=>y
def ag4(E:az)(sq:Cf)(A:AW)(t:xN)(m k:xM):Im:=Ec (RO E sq A t m k) (Ec (RP E sq A t m k) (Ec (RR E sq A t m k) (E2 E sq A t m k)))
def al0(E:az)(sq:Cf)(A:AW)(t:xN)(m k:xM):Im:=Ec (Sw E sq A t m k) (Sx E sq A t m k)
def ak8(E:az)(A:AW)(m s v:xM):Option AW:=Ec (Su E A m s v) (Sv E A m s v)
theorem IS{x y:Option α}{a:α}(h:Ec x y=some a):x=some a\/y=some a:=by
 unfold Ec at h
 grind
include ok aU in
theorem bo1{v:xM}(h:ag4 E sq A t m k=some (v,A'))(inv:Inv w0 E.G β A w)(hm:aj β m m')(hk:aj β k k'):jH w0 E.G β A ((Instr.lookup t m' k' false).run P w) v A'/\A.next<=A'.next:=by
 rcases IS h with h|h
 ·obtain⟨v',hr,hv,hi,hn⟩:=aR2 ok aU h inv hm hk;exact⟨⟨β,v',w,hr,hv,hi,ai.dg _ _⟩,hn⟩
 grind [IS,aR3,hk,aR4,Ml]
include ok aU in
theorem bq2{v:xM}(h:al0 E sq A t m k=some (v,A'))(inv:Inv w0 E.G β A w)(hm:aj β m m')(hk:aj β k k'):jH w0 E.G β A ((Instr.mapEntry t m' k').run P w) v A'/\A.next<=A'.next:=by
 rcases IS h with h|h
 ·obtain⟨v',w',hr,hv,hi,hn⟩:=aS7 ok aU h inv hm hk;exact⟨⟨β,v',w',hr,hv,hi,ai.dg _ _⟩,hn⟩
 grind [aS8,hk]
include ok in
theorem bq0{s s' v v':xM}(h:ak8 E A m s v=some A')(inv:Inv w0 E.G β A w)(hm:aj β m m')(hs:aj β s s')(hv:aj β v v'):∃β' w',(Instr.entryStore t m' s' v').run P w= .ok () w'/\Inv w0 E.G β' A' w'/\β.grow β' A.next/\A.next<=A'.next:=by
 rcases IS h with h|h
 ·obtain⟨w',hr,hi,hn⟩:=aS5 (t:=t) ok h inv hm hs hv
  grind [ai.dg]
 ·exact aS6 ok h inv hm hs hv
end
inductive eL where
 |fn (f:FuncId)
 |rd (L:Nat)
inductive R where
 |fail
 |val (v:xM) (A:AW)
 |call (f:eL) (args:C3)
 |nd (l:List (xM×AW))
def eU(A:AW)(x:JJ):R:=match x with|some v=> .val v A|none=> .fail
def fp(x:Im):R:=match x with|some (v,A)=> .val v A|none=> .fail
def pT(x:Option AW):R:=match x with|some A=> .val undef A|none=> .fail
def Hx(x:Option (List (xM×AW))):R:=match x with|some l=> .nd l|none=> .fail
def KY(x:xM):JJ:=
 match x with
 | .pointer (some a)=>some (.pointer (some a))
 |_=>none
def Ke(c a b:xM):JJ:=match c with| .bool t=>some (bs t a b)|_=>none
def neV(E:az)(g:FuncId)(p args q:C3):JJ:=
 match p,args,q with
 |[],[x],[]=>bs (Hy g E.ne) (some x) none
 |_,_,_=>none
def yA(E:az)(A:AW)(f:xM)(args:C3):R:=
 match f with
 | .func (.func g) ⟨p⟩ ⟨q⟩=>match E.fn.get none g with
  |some ⟨_,_,_,_,_,_,_,_,some _,_,_,_,_,_,_,_⟩=> .call (.fn g) (iR (iR p args) q)
  |_=>eU A (neV E g p args q)
 | .func (.yield L) ⟨[]⟩ ⟨[]⟩=> .call (.rd L) args
 |_=> .fail
def Dm(E:az)(A:AW)(s d:xN)(x:xM):R:=
 match AF E s d x with
 |some v=> .val v A
 |none=>match PW E A s d x with
  |some v=> .val v A
  |none=> .fail
def Cs(E:az)(A:AW)(b:Builtin)(tys:List xN)(vs:C3):R:=
 match b,tys,vs with
 | .len,[t],[x]=>eU A (Rp E A t x)
 | .append,[t,tx],[s,x]=>fp (FL E A t tx s x)
 | .cap,[t],[x]=>eU A (SB E t x)
 |_,_,_=> .fail
theorem N0{γ:Type}{f:α->γ}{l:List α}{x:γ}(h:fC f l=[x]):∃a,l=[a]/\f a=x:=by
 rw[qc] at h
 simp_all
theorem aF5{γ:Type}{f:α->γ}{l:List α}{x y:γ}(h:fC f l=[x,y]):∃a b,l=[a,b]/\f a=x/\f b=y:=by
 rw[qc] at h
 match l,h with
 |[a,b],h=>grind
def aQ(E:az)(sq:Cf)(A:AW)(fr:Gt)(op:Op):R:=
 match op with
 | .move x=> .val (ev E fr x) A
 | .assign x=> .val (ev E fr x) A
 | .pick c a b=>eU A (Ke (ev E fr c) (ev E fr a) (ev E fr b))
 | .alloc t=>fp (ym E A t)
 | .box t x=>fp (yR A t (ev E fr x))
 | .build t ⟨ps⟩=>eU A (J1 E t (fC (fun p=>(p.1,ev E fr p.2)) ps))
 | .buildSlice t len ⟨ps⟩=>fp (wX E A t len (fC (fun p=>(p.1,ev E fr p.2)) ps))
 | .load t a=>eU A (yr E A t (ev E fr a))
 | .store t a x=>pT (x9 E A t (ev E fr a) (ev E fr x))
 | .nilCheck x=>eU A (KY (ev E fr x))
 | .binOp op t x y _=>eU A (ij E sq op t (ev E fr x) (ev E fr y))
 | .unOp op _ x=>eU A (Hv op (ev E fr x))
 | .convert s d x=>Dm E A s d (ev E fr x)
 | .makeFunc (.func f) ⟨p⟩ ⟨q⟩=> .val (.func (.func f) ⟨fC (ev E fr) p⟩ ⟨fC (ev E fr) q⟩) A
 | .makeSlice t l c=>fp (wY E A t (ev E fr l) (ev E fr c))
 | .slice t x lo hi mx=>eU A (JC E A t (ev E fr x) (lo.map (ev E fr)) (hi.map (ev E fr)) (mx.map (ev E fr)))
 | .fieldAddr t x f=>eU A (IB E t (ev E fr x) f)
 | .field t x f=>eU A (JX E t (ev E fr x) f)
 | .indexAddr t x i=>eU A (IA E t (ev E fr x) (ev E fr i))
 | .index t x i=>eU A (CP E t (ev E fr x) (ev E fr i))
 | .extract x i=>eU A (I0 (ev E fr x) i)
 | .call ⟨.value f,⟨args⟩,_⟩=>yA E A (ev E fr f) (fC (ev E fr) args)
 | .call ⟨.builtin b,⟨args⟩,⟨tys⟩⟩=>Cs E A b tys (fC (ev E fr) args)
 | .range t x=>fp (CM E A t (ev E fr x))
 | .next it false=>Hx (Ki E A (ev E fr it))
 | .entry it=>eU A (JR A (ev E fr it))
 |_=> .fail
def bk7(E:az)(A:AW)(fr:Gt)(f:Fn)(p q:List Operand):R:=
 match f with
 | .func f=> .val (.func (.func f) ⟨fC (ev E fr) p⟩ ⟨fC (ev E fr) q⟩) A
 |_=> .fail
def br9(E:az)(A:AW)(fr:Gt)(c:Call):R:=
 Call.rec (motive:=fun _=>az->AW->Gt->R) (fun ce args tys E A fr=>Callee.rec (motive:=fun _=>List Operand->List xN->az->AW->Gt->R)
  (fun f args _ E A fr=>yA E A (ev E fr f) (fC (ev E fr) args)) (fun _ _ _ _ _ _ _=> .fail) (fun b args tys E A fr=>Cs E A b tys (fC (ev E fr) args)) ce args.toList tys.toList E A fr) c E A fr
def Ed(op:Op):az->Cf->AW->Gt->R:=
 Op.rec (motive:=fun _=>az->Cf->AW->Gt->R)
  (fun x E _ A fr=> .val (ev E fr x) A)
  (fun x E _ A fr=> .val (ev E fr x) A)
  (fun c a b E _ A fr=>eU A (Ke (ev E fr c) (ev E fr a) (ev E fr b)))
  (fun t E _ A _=>fp (ym E A t))
  (fun t x E _ A fr=>fp (yR A t (ev E fr x)))
  (fun t ps E _ A fr=>eU A (J1 E t (fC (fun p=>(p.1,ev E fr p.2)) ps.toList)))
  (fun t len ps E _ A fr=>fp (wX E A t len (fC (fun p=>(p.1,ev E fr p.2)) ps.toList)))
  (fun _ _ _ _ _ _ _ _=> .fail)
  (fun t a E _ A fr=>eU A (Qk E A t (ev E fr a)))
  (fun t a x E _ A fr=>pT (x9 E A t (ev E fr a) (ev E fr x)))
  (fun _ _ _ _ _=> .fail)
  (fun _ _ _ _ _=> .fail)
  (fun x E _ A fr=>eU A (KY (ev E fr x)))
  (fun op t x y _ E sq A fr=>eU A (SE E sq op t (ev E fr x) (ev E fr y)))
  (fun op _ x E _ A fr=>eU A (Hv op (ev E fr x)))
  (fun s d x E _ A fr=>Dm E A s d (ev E fr x))
  (fun _ _ _ _ _ _=> .fail)
  (fun _ _ _ _ _ _=> .fail)
  (fun f p q E _ A fr=>bk7 E A fr f p.toList q.toList)
  (fun _ _ _ _ _ _=> .fail)
  (fun _ _ _ _ _ _=> .fail)
  (fun t l c E _ A fr=>fp (wY E A t (ev E fr l) (ev E fr c)))
  (fun t x lo hi mx E _ A fr=>eU A (JC E A t (ev E fr x) (lo.map (ev E fr)) (hi.map (ev E fr)) (mx.map (ev E fr))))
  (fun t x f E _ A fr=>eU A (IB E t (ev E fr x) f))
  (fun t x f E _ A fr=>eU A (JX E t (ev E fr x) f))
  (fun t x i E _ A fr=>eU A (IA E t (ev E fr x) (ev E fr i)))
  (fun t x i E _ A fr=>eU A (CP E t (ev E fr x) (ev E fr i)))
  (fun _ _ _ _ _ _ _ _=> .fail)
  (fun _ _ _ _ _ _ _ _=> .fail)
  (fun _ _ _ _ _ _ _=> .fail)
  (fun _ _ _ _ _ _ _ _=> .fail)
  (fun t x E _ A fr=>fp (CM E A t (ev E fr x)))
  (fun it b E _ A fr=>bs b .fail (Hx (Ki E A (ev E fr it))))
  (fun it E _ A fr=>eU A (JR A (ev E fr it)))
  (fun _ _ _ _ _ _ _ _=> .fail)
  (fun x i E _ A fr=>eU A (I0 (ev E fr x) i))
  (fun c E _ A fr=>br9 E A fr c)
  (fun _ _ _ _ _=> .fail)
  (fun _ _ _ _ _=> .fail)
  (fun _ _ _ _ _=> .fail)
  (fun _ _ _ _ _ _=> .fail)
  (fun _ _ _ _ _ _ _=> .fail)
  (fun _ _ _ _ _ _=> .fail) op
theorem JK(op:Op)(E:az)(sq:Cf)(A:AW)(fr:Gt):Ed op E sq A fr=aQ E sq A fr op:=by
 cases op with
 |build t ps=>obtain⟨ps⟩:=ps;rfl
 |buildSlice t len ps=>obtain⟨ps⟩:=ps;rfl
 |load t a=>show eU A (Qk E A t (ev E fr a))=_;rw[aF4];rfl
 |binOp op t x y ty=>show eU A (SE E sq op t (ev E fr x) (ev E fr y))=_;rw[aT5];rfl
 |makeFunc f p q=>obtain⟨p⟩:=p;obtain⟨q⟩:=q;cases f<;>rfl
 |next it b=>cases b<;>rfl
 |call c=>
  obtain⟨ce,⟨args⟩,⟨tys⟩⟩:=c;cases ce<;>rfl
 |_=>rfl
section
variable(ok:E.Ok P){sq:Cf}(aU:E.Seq P sq)(inv:Inv w0 E.G β A w)
def Ag(P:Program)(w0:World)(G:GP)(β:ai)(A:AW)(w:World)(s:Sem Next)(v:xM)(A':AW):Prop:=
 ∃β' v' w',(s.run P w= .ok (.value v') w'\/(s.run P w= .ok .skip w'/\v'=undef))/\aj β' v v'/\Inv w0 G β' A' w'/\β.grow β' A.next/\A.next<=A'.next
theorem tF{x:JJ}{v:xM}(h:eU A x= .val v A'):x=some v/\A'=A:=by
 unfold eU at h
 grind
theorem ma{x:Im}{v:xM}(h:fp x= .val v A'):x=some (v,A'):=by
 unfold fp at h
 grind
theorem zT{x:Option AW}{v:xM}(h:pT x= .val v A'):x=some A'/\v=undef:=by
 unfold pT at h
 grind
include inv in
theorem qh{s:Sem xM}{x:JJ}{v:xM}(h:eU A x= .val v A')(hs:x=some v->∃v',s.run P w= .ok v' w/\aj β v v'):Ag P w0 E.G β A w (do pure (.value (<-s))) v A':=by
 obtain⟨h1,rfl⟩:=tF h;obtain⟨v',hr,hv⟩:=hs h1;exact⟨β,v',w,.inl (by simp[hr]),hv,inv,ai.dg _ _,xk _⟩
theorem CX{s:Sem xM}{x:Im}{v:xM}(h:fp x= .val v A')(hn:x=some (v,A')->A.next<=A'.next)(hs:x=some (v,A')->jH w0 E.G β A (s.run P w) v A'):Ag P w0 E.G β A w (do pure (.value (<-s))) v A':=by
 have h1:=ma h;obtain⟨β',v',w',hr,hv,hi,hg⟩:=hs h1;exact⟨β',v',w',.inl (by simp[hr]),hv,hi,hg,hn h1⟩
theorem I2(hf:bU β n fr a.tmps)(inv:Inv w0 E.G β A w):∀(ps:List (Nat×Operand)),D2 β (fC (fun p=>(p.1,ev E fr p.2)) ps) (ps.map fun p=>(p.1,a.eval p.2))
 |[]=>trivial
 |p::ps=>⟨rfl,kB inv hf p.2,I2 hf inv ps⟩
theorem I3(hf:bU β n fr a.tmps)(inv:Inv w0 E.G β A w):∀(ps:List Operand),aZ β (fC (ev E fr) ps) (ps.map a.eval)
 |[]=>aZ.nil β
 |p::ps=>(I3 hf inv ps).cons (kB inv hf p)
theorem Oi(hf:bU β n fr a.tmps)(inv:Inv w0 E.G β A w)(x:Option Operand):vV β (x.map (ev E fr)) (x.map a.eval):=by
 cases x with
 |none=>trivial
 |some x=>exact kB inv hf x
theorem aO0{c c' a a' b b' v:xM}(h:Ke c a b=some v)(hc:aj β c c')(ha:aj β a a')(hb:aj β b b')(w:World):∃t,c'= .bool t/\aj β v (if t then a' else b'):=by
 unfold Ke at h;split at h
 ·rename_i t;cases h;cases hc;refine⟨t,rfl,?_⟩;cases t
  ·exact hb
  ·exact ha
 ·cases h
theorem ar5{v:xM}(h:ym E A t=some (v,A')):A.next<=A'.next:=by
 unfold ym at h;split at h
 ·replace h:=aC h;rcases h with⟨_,h⟩|⟨_,h⟩<;>cases h
  exact Nat.le_succ _
 ·cases h
theorem az9{x v:xM}(h:yR A t x=some (v,A')):A.next<=A'.next:=by
 unfold yR at h;split at h<;>cases h
 exact Nat.le_succ _
theorem am4{ps:List (Nat×xM)}{v:xM}(h:wX E A t n ps=some (v,A')):A.next<=A'.next:=by
 unfold wX at h;split at h
 ·split at h
  ·replace h:=aC h;rcases h with⟨_,h⟩|⟨_,h⟩
   ·split at h<;>cases h
    exact Nat.le_succ _
   ·cases h
  ·cases h
 ·cases h
theorem am7{l c v:xM}(h:wY E A t l c=some (v,A')):A.next<=A'.next:=by
 unfold wY at h;split at h
 ·split at h
  ·replace h:=aC h;rcases h with⟨_,h⟩|⟨_,h⟩<;>cases h
   exact Nat.le_succ _
  ·cases h
 ·cases h
theorem ap7{a x:xM}(h:x9 E A t a x=some A'):A.next<=A'.next:=by
 unfold x9 at h;split at h
 ·split at h
  ·replace h:=aC h;rcases h with⟨_,h⟩|⟨_,h⟩<;>cases h
   exact xk _
  ·cases h
 ·cases h
theorem ap5{tx:xN}{s x v:xM}(h:FL E A t tx s x=some (v,A')):A.next<=A'.next:=by
 unfold FL at h;split at h
 ·cases h
 split at h
 ·cases h
 split at h
 ·replace h:=aC h;rcases h with⟨_,h⟩|⟨_,h⟩
  ·grind
  ·replace h:=aC h;rcases h with⟨_,h⟩|⟨_,h⟩<;>cases h
   exact Nat.le_succ _
 ·replace h:=aC h;rcases h with⟨_,h⟩|⟨_,h⟩
  ·grind
  ·replace h:=aC h;rcases h with⟨_,h⟩|⟨_,h⟩
   ·cases h
   ·split at h
    ·replace h:=aC h;rcases h with⟨_,h⟩|⟨_,h⟩
     ·replace h:=aC h;rcases h with⟨_,h⟩|⟨_,h⟩
      ·replace h:=aC h;rcases h with⟨_,h⟩|⟨_,h⟩<;>cases h
       exact xk _
      ·split at h
       ·replace h:=aC h;rcases h with⟨_,h⟩|⟨_,h⟩
        ·replace h:=aC h;rcases h with⟨_,h⟩|⟨_,h⟩
         ·cases h;exact Nat.le_succ _
         ·replace h:=aC h;rcases h with⟨_,h⟩|⟨_,h⟩<;>cases h
          exact Nat.le_succ _
        ·cases h
       ·cases h
     ·cases h
    ·cases h
 ·cases h
include ok aU inv in
theorem Qf(hf:bU β n fr a.tmps){v:xM}(h:aQ E sq A fr o.op= .val v A'):Ag P w0 E.G β A w (execOp a.eval o) v A':=by
 obtain⟨dst,op,type,cq,after,guard⟩:=o;have E1:=kB (a:=a) inv hf;unfold aQ at h;simp only at h;split at h
 ·cases h;exact⟨β,_,w,.inl rfl,E1 _,inv,ai.dg _ _,xk _⟩
 ·cases h;exact⟨β,_,w,.inl rfl,E1 _,inv,ai.dg _ _,xk _⟩
 ·rename_i c x y;obtain⟨h1,rfl⟩:=tF h;obtain⟨t,ht,hv⟩:=aO0 h1 (E1 c) (E1 x) (E1 y) w;exact⟨β,_,w,.inl (by simp[execOp,ht,asBool]),hv,inv,ai.dg _ _,xk _⟩
 ·exact CX h ar5 (fun e=>aK2 ok inv e)
 ·rename_i t x;exact CX h az9 (fun e=>bf9 inv e (E1 x))
 ·rename_i t ps;have:=qh (P:=P) (s:=Instr.build t (Array.map (fun(p:Nat×Operand)=>(p.1,a.eval p.2)) ⟨ps⟩)) inv h (fun e=>by
   have:=Od ok e (I2 hf inv ps) w
   grind)
  exact this
 ·rename_i t len ps;have:=CX (P:=P) (w:=w) (β:=β) (A:=A) (E:=E) (w0:=w0) (s:=Instr.buildSlice t len (Array.map (fun(p:Nat×Operand)=>(p.1,a.eval p.2)) ⟨ps⟩)) h am4 (fun e=>by
   grind [an5,I2])
  exact this
 ·rename_i t x;exact qh inv h (fun e=>Xo ok inv e (E1 x))
 ·rename_i t x y;obtain⟨h1,rfl⟩:=zT h;obtain⟨w',hr,hi⟩:=aC2 ok inv h1 (E1 x) (E1 y);exact⟨β,undef,w',.inr ⟨by simp[execOp,hr],rfl⟩,aj.undef,hi,ai.dg _ _,ap7 h1⟩
 ·rename_i x;obtain⟨h1,rfl⟩:=tF h;have hx:=E1 x;generalize BG:a.eval x=xv at hx;refine⟨β,xv,w,.inl ?_,?_,inv,ai.dg _ _,xk _⟩
  ·unfold KY at h1;split at h1
   ·rename_i q hq;rw[hq] at hx;cases hx;simp[execOp,BG]
   ·cases h1
  ·unfold KY at h1
   grind
 ·rename_i zv t x y ty;have:=qh (P:=P) (s:=(do eqGuard zv t x y (a.eval x) (a.eval y);binOp zv t (a.eval x) (a.eval y))) inv h (fun e=>rV ok aU e (E1 x) (E1 y) x y w);exact this
 ·rename_i LM t x;exact qh inv h (fun e=>Y0 e (E1 x) P w)
 ·rename_i s d x;unfold Dm at h;split at h
  ·rename_i v0 hc;cases h;obtain⟨v',hr,hv⟩:=OT ok hc (E1 x) w;exact⟨β,v',w,.inl (by simp[execOp,hr]),hv,inv,ai.dg _ _,xk _⟩
  ·split at h
   ·rename_i v0 hc;cases h;obtain⟨v',hr,hv⟩:=aK9 ok inv hc (E1 x);exact⟨β,v',w,.inl (by simp[execOp,hr]),hv,inv,ai.dg _ _,xk _⟩
   ·cases h
 ·rename_i f p q;cases h;refine⟨β,.func (.func f) (Array.map a.eval ⟨p⟩) (Array.map a.eval ⟨q⟩),w,.inl (by simp[execOp,Instr.makeFunc]),?_,inv,ai.dg _ _,xk _⟩
  grind [aj.XC,I3]
 ·rename_i t x y;exact CX h am7 (fun e=>ao5 ok inv e (E1 x) (E1 y))
 ·rename_i t x lo hi mx;exact qh inv h (fun e=>aD1 ok inv e (E1 x) (Oi hf inv lo) (Oi hf inv hi) (Oi hf inv mx))
 ·rename_i t x f;exact qh inv h (fun e=>ap0 ok e (E1 x) w)
 ·rename_i t x f;exact qh inv h (fun e=>aH7 ok e (E1 x) w)
 ·rename_i t x i;exact qh inv h (fun e=>ao6 ok e (E1 x) (E1 i) w)
 ·rename_i t x i;exact qh inv h (fun e=>Co ok e (E1 x) (E1 i) w)
 ·rename_i x i;exact qh inv h (fun e=>au5 e (E1 x) P w)
 ·rename_i f args _;have bK:=E1 f;unfold yA at h;split at h
  ·rename_i g p q zb;rw[zb] at bK;split at h
   ·cases h
   ·obtain⟨h1,rfl⟩:=tF h;unfold neV at h1;split at h1
    ·rename_i x hx;replace h1:=aC h1;rcases h1 with⟨hb,h1⟩|⟨_,h1⟩
     ·cases h1;obtain⟨x0,rfl,rfl⟩:=N0 hx;generalize BG:a.eval f=gv at bK;cases bK with
      |func _ _ p' _ q' hp hq h1 h2=>
       have HH:p'=[]:=xA hp.symm;have wm:q'=[]:=xA hq.symm;subst HH;subst wm;refine⟨β,a.eval x0,w,.inl ?_,E1 x0,inv,ai.dg _ _,xk _⟩;have bo:=ok.ne g (Jl hb) (a.eval x0) w;simp[execOp,resolve,BG,Deferred.ofValue,invoke,bo]
     ·cases h1
    ·cases h1
  ·cases h
  ·cases h
 ·rename_i b args tys;unfold Cs at h;split at h
  ·rename_i t x hv;obtain⟨x0,rfl,rfl⟩:=N0 hv;have:=qh (P:=P) (s:=Builtin.len_ #[t] type #[a.eval x0]) inv h (fun e=>JO ok e (E1 x0))
   grind [execOp,resolve,invoke,builtin]
  ·rename_i t tx s x hv;obtain⟨s0,x0,rfl,rfl,rfl⟩:=aF5 hv;have:=CX (P:=P) (w:=w) (β:=β) (A:=A) (E:=E) (w0:=w0) (s:=Builtin.append_ #[t,tx] type #[a.eval s0,a.eval x0]) h ap5 (fun e=>aA2 ok inv e (E1 s0) (E1 x0))
   grind [execOp,resolve,invoke,builtin]
  ·rename_i t x hv;obtain⟨x0,rfl,rfl⟩:=N0 hv;have:=qh (P:=P) (s:=Builtin.cap_ #[t] type #[a.eval x0]) inv h (fun e=>bf2 ok e (E1 x0))
   grind [execOp,resolve,invoke,builtin]
  ·cases h
 ·rename_i t x;exact CX h aq0 (fun e=>aD8 ok inv e (E1 x))
 ·unfold Hx at h;grind
 ·rename_i it;exact qh inv h (fun e=>aG5 inv e (E1 it))
 ·cases h
def PS(P:Program)(β:ai)(w:World)(s:Sem Next)(args':C3):eL->Prop
 | .fn f=>s.run P w= .ok (.enter f ⟨args'⟩) w
 | .rd L=>∃l,β L=some l/\s.run P w=(Instr.yield l.b ⟨args'⟩).run P w
include ok inv in
theorem aO7(hf:bU β n fr a.tmps){f:eL}(h:aQ E sq A fr o.op= .call f args):
 ∃args',aZ β args args'/\PS P β w (execOp a.eval o) args' f:=by
 obtain⟨dst,op,type,cq,after,guard⟩:=o;have E1:=kB (a:=a) inv hf;unfold aQ at h;simp only at h;split at h
 case h_22=>
  rename_i g as _;have hg:=E1 g;unfold yA at h;split at h
  ·rename_i fid p q zb;split at h
   ·rename_i nm SY ta ps rt nf nt rs bd nr ou fi el ln me tn qK;cases h;rw[zb] at hg;obtain⟨DP,Av⟩:=ok.fn fid _ qK;generalize BG:a.eval g=gv at hg;cases hg with
    |func _ _ p' _ q' hp hq h1 h2=>
     refine⟨p'++as.map a.eval++q',?_,?_⟩
     ·rw[mQ,mQ];exact(aZ.append ⟨hp,h1⟩ (I3 hf inv as)).append ⟨hq,h2⟩
     ·have Pw: ¬nm= "runtime.NumGoroutine":=by simpa using Av
      simp[PS,execOp,resolve,BG,Deferred.ofValue,invoke,callFunc,program,Sem.run,DP,Pw]
   ·unfold eU at h;grind
  ·rename_i L zb;cases h;rw[zb] at hg;generalize BG:a.eval g=gv at hg;cases hg with
   |yield _ l hl=>
    refine⟨as.map a.eval,I3 hf inv as,l,hl,?_⟩;simp[execOp,resolve,BG,Deferred.ofValue,invoke]
  ·cases h
 case h_23=>
  unfold Cs at h;split at h
  all_goals first
   |cases h
   |(unfold eU at h;split at h<;>cases h)
   |(unfold fp at h;split at h<;>cases h)
 all_goals first
  |cases h
  |(unfold eU at h;split at h<;>cases h)
  |(unfold fp at h;split at h<;>cases h)
  |(unfold pT at h;split at h<;>cases h)
  |(unfold Hx at h;grind)
  |(unfold Dm at h
    split at h
    ·cases h
    ·split at h<;>cases h)
include inv in
theorem bk2(hf:bU β n fr a.tmps){l:List (xM×AW)}(h:aQ E sq A fr o.op= .nd l):
 ∃p∈l,Ag P w0 E.G β A w (execOp a.eval o) p.1 p.2:=by
 obtain⟨dst,op,type,cq,after,guard⟩:=o;have E1:=kB (a:=a) inv hf;unfold aQ at h;simp only at h;split at h
 case h_25=>
  rename_i it;unfold Hx at h;split at h
  ·rename_i l2 hn;cases h;obtain⟨p,hp,⟨β',v',w',hr,hv,hi,hg⟩,aN⟩:=OC (P:=P) (ty0:=type) inv hn (E1 it);exact⟨p,hp,β',v',w',.inl (by simp[execOp,hr]),hv,hi,hg,aN⟩
  ·cases h
 case h_22=>
  unfold yA at h;split at h
  ·split at h
   ·cases h
   ·unfold eU at h;grind
  ·cases h
  ·cases h
 case h_23=>
  unfold Cs at h;split at h
  all_goals first
   |cases h
   |(unfold eU at h;split at h<;>cases h)
   |(unfold fp at h;split at h<;>cases h)
 all_goals first
  |cases h
  |(unfold eU at h;split at h<;>cases h)
  |(unfold fp at h;split at h<;>cases h)
  |(unfold pT at h;split at h<;>cases h)
  |(unfold Dm at h
    split at h
    ·cases h
    ·split at h<;>cases h)
end
def tT(E:az)(sq:Cf)(A:AW)(fr:Gt)(op:Op):R:=
 match A.tape with
 |[]=> .fail
 |nd::r=>match n9 E sq A fr op nd with
  |some v=> .val v (A.pop r)
  |none=> .fail
def nh(r:R):R->R:=R.rec (motive:=fun _=>R->R) (fun s=>s) (fun v A _=> .val v A) (fun f a _=> .call f a) (fun l _=> .nd l) r
def pL(E:az)(sq:Cf)(A:AW)(fr:Gt)(op:Op):R:=
 match op with
 | .call ⟨.builtin .append,⟨[s,x]⟩,⟨[t,tx]⟩⟩=>fp (SH E A t tx (ev E fr s) (ev E fr x))
 | .store t a x=>pT (z5 E A t (ev E fr a) (ev E fr x))
 | .makeSlice t l c=>fp (S2 E A t (ev E fr l) (ev E fr c))
 | .convert s d x=>fp (PK E A s d (ev E fr x))
 | .call ⟨.builtin .unsafeSliceData,⟨[x]⟩,_⟩=>fp (Pa A (ev E fr x))
 | .call ⟨.builtin .unsafeString,⟨[x,y]⟩,⟨[t,_]⟩⟩=>fp (PU E A t (ev E fr x) (ev E fr y))
 | .slice t x lo hi none=>fp (O5 E A t (ev E fr x) (pU E fr lo) (qI E fr hi))
 | .call ⟨.builtin .copy,⟨[d,x]⟩,⟨[t,tx]⟩⟩=>fp (QT E A t tx (ev E fr d) (ev E fr x))
 | .call ⟨.value f,⟨[x]⟩,_⟩=>fp (Rk E A (ev E fr f) (ev E fr x))
 | .makeMap t none=> .val (z9 E sq A t).1 (z9 E sq A t).2
 | .mapUpdate t m k x=>pT (Q0 E sq A t (ev E fr m) (ev E fr k) (ev E fr x))
 | .lookup t m k false=>fp (ag4 E sq A t (ev E fr m) (ev E fr k))
 | .mapEntry t m k=>fp (al0 E sq A t (ev E fr m) (ev E fr k))
 | .entryStore _ m st x=>pT (ak8 E A (ev E fr m) (ev E fr st) (ev E fr x))
 |_=> .fail
def mark(A:AW):Option AW:=
 match A.tape with
 |[]=>none
 |nd::r=>match nd.k with
  | .own 0=>some (A.pop r)
  |_=>none
def aZ1(v:xM):Bool:=match v with| .slice none 0 0=>true| .iface _ _=>true|_=>false
def Kg(E:az)(fr:Gt)(op:Op):Bool:=match op with| .call ⟨.builtin .append,⟨[x,_]⟩,_⟩=>aZ1 (ev E fr x)| .makeMap _ none=>true|_=>false
def iL(E:az)(sq:Cf)(A:AW)(fr:Gt)(op:Op):R:=
 match bs (Kg E fr op) (mark A) none with
 |some A1=>pL E sq A1 fr op
 |none=>nh (Ed op E sq A fr) (nh (tT E sq A fr op) (pL E sq A fr op))
theorem Fa(E:az)(sq:Cf)(A:AW)(fr:Gt)(op:Op):(iL E sq A fr op=aQ E sq A fr op/\aQ E sq A fr op≠ .fail)\/iL E sq A fr op=tT E sq A fr op\/iL E sq A fr op=pL E sq A fr op\/∃nd r,A.tape=nd::r/\iL E sq A fr op=pL E sq (A.pop r) fr op:=by
 unfold iL;split
 ·rename_i A1 hm;replace hm:mark A=some A1:=(aC hm).elim (fun h=>h.2) (fun h=>by cases h.2);unfold mark at hm
  grind
 ·rw[JK];cases h:aQ E sq A fr op with
  |fail=>
   cases h2:tT E sq A fr op with
   |fail=>exact .inr (.inr (.inl rfl))
   |_=>exact .inr (.inl rfl)
  |_=>exact .inl ⟨rfl,NS⟩
theorem IL{sq:Cf}{r:R}(h:tT E sq A fr op=r)(hr:r≠ .fail):∃nd l v,A.tape=nd::l/\n9 E sq A fr op nd=some v/\r= .val v (A.pop l):=by
 grind [tT,absurd,h.symm]
theorem ar7{sq:Cf}{g g':Gt}(h:∀nd,n9 E sq A g op nd=n9 E sq A g' op nd):tT E sq A g op=tT E sq A g' op:=by
 grind [tT]
theorem IR{sq:Cf}:(∀f args,pL E sq A fr op≠ .call f args)/\∀l,pL E sq A fr op≠ .nd l:=by
 unfold pL;split
 ·unfold fp;grind
 ·unfold pT;grind
 ·unfold fp;grind
 ·unfold fp;grind
 ·unfold fp;grind
 ·unfold fp;grind
 ·unfold fp;grind
 ·unfold fp;grind
 ·unfold fp;grind
 ·grind
 ·unfold pT;grind
 ·unfold fp;grind
 ·unfold fp;grind
 ·unfold pT;grind
 grind
section
variable(ok:E.Ok P){sq:Cf}(aU:E.Seq P sq)(inv:Inv w0 E.G β A w)
include ok aU inv in
theorem Yj(hf:bU β n fr a.tmps){v:xM}(h:pL E sq A fr o.op= .val v A'):Ag P w0 E.G β A w (execOp a.eval o) v A':=by
 obtain⟨dst,op,type,cq,after,guard⟩:=o;have E1:=kB (a:=a) inv hf;unfold pL at h;simp only at h;split at h
 ·rename_i s x t tx;have h1:=ma h;obtain⟨⟨β',v',w',hr,hv,hi,hg⟩,hn⟩:=aU2 (ty:=type) ok h1 inv (E1 s) (E1 x);exact⟨β',v',w',.inl (by simp[execOp,resolve,invoke,builtin,hr]),hv,hi,hg,hn⟩
 ·rename_i t x y;obtain⟨h1,rfl⟩:=zT h;obtain⟨β',w',hr,hi,hg,hn⟩:=aw1 ok h1 inv (E1 x) (E1 y);exact⟨β',undef,w',.inr ⟨by simp[execOp,hr],rfl⟩,aj.undef,hi,hg,hn⟩
 ·rename_i t x y;have h1:=ma h;obtain⟨⟨β',v',w',hr,hv,hi,hg⟩,hn⟩:=aF3 ok h1 inv (E1 x) (E1 y);exact⟨β',v',w',.inl (by simp[execOp,hr]),hv,hi,hg,hn⟩
 ·rename_i s d x;have h1:=ma h;obtain⟨⟨β',v',w',hr,hv,hi,hg⟩,hn⟩:=az6 ok h1 inv (E1 x);exact⟨β',v',w',.inl (by simp[execOp,hr]),hv,hi,hg,hn⟩
 ·rename_i x ts;have h1:=ma h;obtain⟨⟨β',v',w',hr,hv,hi,hg⟩,hn⟩:=aw7 (tys:=ts) (ty:=type) ok h1 inv (E1 x);exact⟨β',v',w',.inl (by simp[execOp,resolve,invoke,builtin,hr]),hv,hi,hg,hn⟩
 ·rename_i x y t ti;have h1:=ma h;obtain⟨⟨β',v',w',hr,hv,hi,hg⟩,hn⟩:=aB1 (it:=ti) (ty:=type) ok h1 inv (E1 x) (E1 y);exact⟨β',v',w',.inl (by simp[execOp,resolve,invoke,builtin,hr]),hv,hi,hg,hn⟩
 ·rename_i t x lo hi;have h1:=ma h;obtain⟨β',v',hr,hv,cb,hg,hn⟩:=aM0 ok hf h1 inv;exact⟨β',v',w,.inl (by simp[execOp,hr]),hv,cb,hg,hn⟩
 ·rename_i d x t tx;have h1:=ma h;obtain⟨⟨β',v',w',hr,hv,hi,hg⟩,hn⟩:=aI5 (ty:=type) ok h1 inv (E1 d) (E1 x);exact⟨β',v',w',.inl (by simp[execOp,resolve,invoke,builtin,hr]),hv,hi,hg,hn⟩
 ·rename_i f x ts;have h1:=ma h;obtain⟨g,hgf,β',v',w',hr,hv,hi,hg,hn⟩:=aP5 ok h1 inv (E1 f) (E1 x);exact⟨β',v',w',.inl (by simp[execOp,resolve,hgf,Deferred.ofValue,invoke,hr]),hv,hi,hg,hn⟩
 ·cases h;rename_i t;obtain⟨β',v',w',hr,hv,hi,hg⟩:=ax3 (P:=P) (E:=E) (sq:=sq) inv t;exact⟨β',v',w',.inl (by simp[execOp,hr]),hv,hi,hg,aq3⟩
 ·rename_i t m k x;obtain⟨h1,rfl⟩:=zT h;obtain⟨w',hr,hi,hn⟩:=aL1 ok aU h1 inv (E1 m) (E1 k) (E1 x);exact⟨β,undef,w',.inr ⟨by simp[execOp,hr],rfl⟩,aj.undef,hi,ai.dg _ _,hn⟩
 ·rename_i t m k;have h1:=ma h;obtain⟨⟨β',v',w',hr,hv,hi,hg⟩,hn⟩:=bo1 ok aU h1 inv (E1 m) (E1 k);exact⟨β',v',w',.inl (by simp[execOp,hr]),hv,hi,hg,hn⟩
 ·rename_i t m k;have h1:=ma h;obtain⟨⟨β',v',w',hr,hv,hi,hg⟩,hn⟩:=bq2 ok aU h1 inv (E1 m) (E1 k);exact⟨β',v',w',.inl (by simp[execOp,hr]),hv,hi,hg,hn⟩
 ·rename_i t m st x;obtain⟨h1,rfl⟩:=zT h;obtain⟨β',w',hr,hi,hg,hn⟩:=bq0 (t:=t) ok h1 inv (E1 m) (E1 st) (E1 x);exact⟨β',undef,w',.inr ⟨by simp[execOp,hr],rfl⟩,aj.undef,hi,hg,hn⟩
 ·cases h
include ok aU inv
theorem aX5(hf:bU β n fr a.tmps){v:xM}(h:iL E sq A fr o.op= .val v A'):Ag P w0 E.G β A w (execOp a.eval o) v A':=by
 rcases Fa E sq A fr o.op with⟨h1,_⟩|h1|h1|⟨nd,r,ht,h1⟩
 ·exact Qf ok aU inv hf (h1.symm.trans h)
 ·obtain⟨nd,l,v2,ht,hv,hr⟩:=IL (h1.symm.trans h) NS;cases hr;obtain⟨v',aW,iS⟩:=X5 ok aU inv hf hv (ok.q _ _ (inv.dX nd Ns));exact⟨β,v',w,.inl aW,iS,inv.pop (fun x hx=>Ns),ai.dg _ _,xk _⟩
 ·exact Yj ok aU inv hf (h1.symm.trans h)
 ·have:=Yj ok aU (inv.pop (r:=r) (fun x hx=>Ns)) hf (h1.symm.trans h);exact this
omit aU in
theorem aE5(hf:bU β n fr a.tmps){f:eL}(h:iL E sq A fr o.op= .call f args):∃args',aZ β args args'/\PS P β w (execOp a.eval o) args' f:=by
 rcases Fa E sq A fr o.op with⟨h1,_⟩|h1|h1|⟨nd,r,ht,h1⟩
 ·exact aO7 ok inv hf (h1.symm.trans h)
 ·obtain⟨nd,l,v2,ht,hv,hr⟩:=IL (h1.symm.trans h) NS;cases hr
 ·exact absurd (h1.symm.trans h) (IR.1 _ _)
 ·exact absurd (h1.symm.trans h) (IR.1 _ _)
omit ok aU in
theorem aX6(hf:bU β n fr a.tmps){l:List (xM×AW)}(h:iL E sq A fr o.op= .nd l):∃p∈l,Ag P w0 E.G β A w (execOp a.eval o) p.1 p.2:=by
 rcases Fa E sq A fr o.op with⟨h1,_⟩|h1|h1|⟨nd,r,ht,h1⟩
 ·exact bk2 inv hf (h1.symm.trans h)
 ·obtain⟨nd,l,v2,ht,hv,hr⟩:=IL (h1.symm.trans h) NS;cases hr
 ·exact absurd (h1.symm.trans h) (IR.2 _)
 ·exact absurd (h1.symm.trans h) (IR.2 _)
end
end
end Go.Ex
