/- A verified evaluator of Go functions. -/
import Derived.Test.YthicpeihkkokmaaGreatDoorX5
import Derived.Lib.MakeNoZero
set_option linter.unusedVariables false
set_option linter.unusedSimpArgs false
namespace Go.Ex
variable{β:af}{b es B n:Nat}{ty t:xN}{ks:a0u}{rows rs:a0b}{kd:a0d}{w0 w:World}{G:GP}{A A':AW}{l:Loc}{blk:aE}{e:MapEntry}{P:Program}{E:au}{us args:a0e}{es':a0k}{ex:Bool}{m m' k k':xM}{o:Oper}{α γ ρ:Type}{fr:Gt}{a:Act}{op:Op}
open Go.RowKit
noncomputable section
theorem mb.mi{β':af}{dZ:a0b}{kf Et:a0k}(h:mb β b es ty ks none rows kf){td:Option (Nat×List D)}{j:Nat}{vs:a0e}{d:D}{ej:MapEntry}
 (aD:dZ.length=Et.length) (kU:∀(i:Nat) (r:a0d) (e:MapEntry),i≠j->dZ[i]? =some r->Et[i]? =some e->rows[i]? =some r/\∃e0,kf[i]? =some e0/\e.key=e0.key/\e.val=e0.val) (hj:dZ[j]? =some [.agg kd,d]) (hej:Et[j]? =some ej) (iW:fC ks kd=some vs) (hk:ej.key= .agg ⟨vs⟩)
 (Ms:(d=fc/\∀B,td=some (B,kd)->β'.o B=some ej.val)\/∃rs,d= .sl rs/\mc β' b es ty rs ej.val) (pM:∀B k,td=some (B,k)->k=kd) (qh:∀(i:Nat) (r:a0d),i≠j->dZ[i]? =some r->r[0]?≠some (.agg kd))
 (Ej:∀(i:Nat) (r:a0d) (rs:a0b) (e:MapEntry),i≠j->rows[i]? =some r->r[1]? =some (.sl rs)->kf[i]? =some e->mc β b es ty rs e.val->mc β' b es ty rs e.val)
 (cx0:d≠fc->∀(i:Nat) (r:a0d) (e:MapEntry) (c:Nat),i≠j->rows[i]? =some r->r[1]?≠some fc->kf[i]? =some e->uM e.val=some c->uM ej.val≠some c):mb β' b es ty ks td dZ Et:=by
 refine⟨aD,fun i r e h1 h2=> ?_,fun i i' r r' e e' c h1 h2 n1 n2 h3 h4 b1 b2=> ?_,fun i i' r r' h1 h2 h3=> ?_⟩
 ·by_cases hi:i=j
  ·grind
  ·obtain⟨g1,e0,g2,g3,g4⟩:=kU i r e hi h1 h2;obtain⟨ds,mh,d',x,y,u,w⟩:=h.row i r e0 g1 g2;refine⟨ds,mh,d',x,y,g3.trans u,?_⟩;rw[g4];rcases w with⟨p,_⟩|⟨rs,p,q⟩
   ·refine .inl ⟨p,fun B hB=> ?_⟩;have:=pM B ds hB;subst this;exact absurd (by rw[x];rfl) (qh i r hi h1)
   ·exact .inr ⟨rs,p,Ej i r rs e0 hi g1 (by rw[x,p];rfl) g2 q⟩
 ·by_cases hi:i=j<;>by_cases gx:i'=j
  ·rw[hi,gx]
  ·grind
  ·grind
  ·obtain⟨g1,e0,g2,g3,g4⟩:=kU i r e hi h1 h3;obtain⟨vG,e0',oE,g3',g4'⟩:=kU i' r' e' gx h2 h4
   grind [h.inj]
 ·by_cases hi:i=j<;>by_cases gx:i'=j
  ·rw[hi,gx]
  ·grind
  ·grind
  ·have hl:i<Et.length:=by rw[<-aD];exact(xe.1 h1).1
   have fj:i'<Et.length:=by rw[<-aD];exact(xe.1 h2).1
   grind [xc,h.key]
def rc(β:af)(n:Nat)(l:Loc)(v:xM)(c:Nat):af:={β with f:=fun X=>if X=n then some l else β X,o:=fun X=>if X=n then some v else β.o X,y:=fun b=>if b=c then none else β.y b}
theorem Q5(β:af)(n:Nat)(l:Loc)(v:xM)(c X:Nat):(rc β n l v c) X=if X=n then some l else β X:=rfl
theorem Q4(β:af)(n:Nat)(l:Loc)(v:xM)(c X:Nat):(rc β n l v c).o X=if X=n then some v else β.o X:=rfl
theorem Q3(β:af)(n:Nat)(l:Loc)(v:xM)(c X:Nat):(rc β n l v c).y X=if X=c then none else β.y X:=rfl
section
theorem aK1(n:Nat)(l:Loc)(v:xM)(c:Nat):β.grow (rc β n l v c) n:=⟨fun B hB=>by rw[Q5,if_neg a0B],fun _ _ h=>h,fun B hB=>by rw[Q4,if_neg a0B],rfl,rfl⟩
theorem Inv.take(h:Inv w0 G β A w){c:Nat}{hh:HY}(hy:β.y c=some hh)(hl:l.b=c){v:xM}
 (gp:gb (rc β A.next l v c) l blk w.heap[c]?) (kB:jI (rc β A.next l v c) A.next blk)
 (hm:∀(C:Nat) (k:aE) (lc:Loc),A.get C=some k->β C=some lc->lc.b=hh.own->gb (rc β A.next l v c) lc k w.heap[lc.b]?):Inv w0 G (rc β A.next l v c) (A.add blk) w/\β.grow (rc β A.next l v c) A.next:=by
 have hg:=aK1 (β:=β) A.next l v c;have aK:β.le (rc β A.next l v c):=h.gC hg;have hn:A.get A.next=none:=h.cW _ (xk _);obtain⟨y1,y2,y3,y4⟩:=h.dR c hh hy;have jJ:∀B lb,(rc β A.next l v c) B=some lb->(B=A.next/\lb=l)\/(B≠A.next/\β B=some lb):=fun B lb e=>by
  rw[Q5] at e
  grind
 have ia:∀B,B≠A.next->(A.add blk).get B=A.get B:=fun B hB=>by
  grind [absurd,A.ni]
 refine⟨⟨h.below,fun B lb e=> ?_,fun B hB=> ?_,fun B lb e=> ?_,fun B B' lb Cv e e' eE ha lz=> ?_,fun B k lb hk e=> ?_,fun g hg=> ?_,h.cP,fun B lb kb hG e ha hs=> ?_,h.dJ,fun B k hk=> ?_,fun B u e=> ?_,h.lay,h.xg,h.jP,h.zo,fun b hb xZ=> ?_⟩,hg⟩
 ·show B<A.next+1;rcases jJ B lb e with⟨e1,_⟩|⟨_,e⟩
  ·omega
  ·exact Nat.lt_succ_of_lt (h.fI B lb e)
 ·have vE:A.next+1<=B:=hB
  grind [h.cW]
 ·rcases jJ B lb e with⟨_,e2⟩|⟨_,e⟩
  ·rw[e2,hl];exact⟨(Array.getElem?_eq_some_iff.1 y1).1,.inr y3⟩
  ·exact h.loc B lb e
 ·grind [absurd,eE.symm,h.inj]
 ·rcases jJ B lb e with⟨h1,h2⟩|⟨hB,f⟩
  ·rw[h1] at hk;rw[h2];rcases A.ni blk hn A.next with⟨e2,_⟩|e2
   ·grind
   grind
  ·rw[ia B hB] at hk;by_cases ho:lb.b=hh.own
   ·grind
   ·refine(h.cont B k lb hk f).mono aK fun c' h' e1 e2=> ?_
    rw[Q3,if_neg (fun e3=>ho a0D)];exact e1
 ·grind [h.jk,aK.f]
 ·rcases jJ B lb e with⟨_,h2⟩|⟨hB,f⟩
  ·rw[h2,hl];exact y2
  ·rw[ia B hB] at ha;exact h.sep B lb kb hG f ha hs
 ·rcases A.ni blk hn B with⟨e2,e3⟩|e2
  ·grind
  ·rw[e2] at hk;exact(h.own B k hk).mono aK
 ·rw[Q4] at e;show B<A.next+1;split at e
  ·omega
  ·exact Nat.lt_succ_of_lt (h.iB B u e)
 ·rw[Q3] at xZ;split at xZ
  ·cases xZ
  ·rename_i bq;obtain⟨q1,q2,q3,q4⟩:=h.dR b hb xZ;refine⟨q1,q2,q3,fun B lb e ha=> ?_⟩
   grind
theorem Inv.bq0(h:Inv w0 G β A w){u:xM}(hu:aZ β.d u=some (.sl [])):Inv w0 G (β.lI A.next (.slice none 0 0)) (A.add ⟨.own u,es,false,false,ty⟩) w/\β.grow (β.lI A.next (.slice none 0 0)) A.next:=by
 have hg:=af.AE β A.next (.slice none 0 0);have ho:β.o A.next=none:=by
  cases hc:β.o A.next with
  |none=>rfl
  |some l=>exact absurd (h.iB _ l hc) (Nat.lt_irrefl _)
 have aK:=af.J9 (β:=β) (.slice none 0 0) ho;have hn:A.get A.next=none:=h.cW _ (xk _);have hb:β A.next=none:=by
  cases hc:β A.next with
  |none=>rfl
  |some l=>exact absurd (h.fI _ l hc) (Nat.lt_irrefl _)
 have ia:∀B l,β B=some l->(A.add ⟨.own u,es,false,false,ty⟩).get B=A.get B:=fun B l e=>by
  grind [own,A.ni]
 refine⟨⟨h.below,fun B l e=>Nat.lt_succ_of_lt (h.fI B l e),fun B hB=> ?_,h.loc,fun B B' l l' e e' eE ha lz=> ?_,fun B k l hk e=> ?_,h.jk,h.cP,fun B l kb hG e ha hs=> ?_,h.dJ,fun B k hk=> ?_,fun B v e=> ?_,h.lay,h.xg,h.jP,h.zo,fun b hh hy=>⟨(h.dR b hh hy).1,(h.dR b hh hy).2.1,(h.dR b hh hy).2.2.1,fun C lc e ha=>(h.dR b hh hy).2.2.2 C lc e (by rw[ia C lc e] at ha;exact ha)⟩⟩,hg⟩
 ·have vE:A.next+1<=B:=hB
  grind [own,A.ni,h.cW]
 ·rw[ia B l e] at ha;rw[ia B' l' e'] at lz;exact h.inj B B' l l' e e' eE ha lz
 ·rw[ia B l e] at hk;exact(h.cont B k l hk e).mono aK
 ·rw[ia B l e] at ha;exact h.sep B l kb hG e ha hs
 ·rcases A.ni ⟨.own u,es,false,false,ty⟩ hn B with⟨e2,e3⟩|e2
  ·rw[e2] at hk;cases hk;exact⟨[],hu,.inl ⟨rfl,by show(if B=A.next then _ else _)=_;grind⟩⟩
  ·rw[e2] at hk;exact(h.own B k hk).mono aK
 ·have e':(if B=A.next then some (Value.slice none 0 0) else β.o B)=some v:=e;show B<A.next+1;split at e'
  ·omega
  ·exact Nat.lt_succ_of_lt (h.iB B v e')
def Nw(β:af)(c:Nat)(hh:HY):af:={β with y:=fun b=>if b=c then some hh else β.y b}
theorem LF(β:af)(c:Nat)(hh:HY)(b:Nat):(Nw β c hh).y b=if b=c then some hh else β.y b:=rfl
theorem aP6(c:Nat)(hh:HY)(n:Nat):β.grow (Nw β c hh) n:=⟨fun _ _=>rfl,fun _ _ h=>h,fun _ _=>rfl,rfl,rfl⟩
theorem Inv.bG8(h:Inv w0 G β A w){k:aE}{aB:a0x}(ob:Nat)(hg:A.get B=some k)(hs:k.still=false)(hB:β B=some l)(hG:G.n<=B)(hh:w.heap[l.b]? =some (.cells aB ty (0,0))):Inv w0 G (Nw β l.b ⟨ob,aB,ty⟩) (A.put B none) w:=by
 have hk:=h.kill B;have aK:β.le (Nw β l.b ⟨ob,aB,ty⟩):=⟨fun _ _ e=>e,fun _ _ e=>e,fun _ _ e=>e,rfl,rfl⟩;have Uh:=h.GM hB (by rw[hg];rfl);have lZ:∀C,((A.put B none).get C).isSome=true->C≠B/\(A.get C).isSome=true:=fun C hs=>by
  grind [A.gk]
 refine⟨hk.below,hk.fI,hk.cW,hk.loc,hk.inj,fun C kc lc a b=>(hk.cont C kc lc a b).mono aK fun c' h' e1 _=> ?_,hk.jk,hk.cP,hk.sep,hk.dJ,fun C kc a=>(hk.own C kc a).mono aK,hk.iB,hk.lay,hk.xg,hk.jP,hk.zo,fun b hb xZ=> ?_⟩
 ·rw[LF,if_neg (fun e=>a0D)];exact e1
 ·rw[LF] at xZ;split at xZ
  ·rename_i he;subst he;cases xZ;refine⟨hh,h.sep B l k hG hB hg hs,(h.loc B l hB).2.resolve_left (Nat.not_lt.2 hG),fun C lc e ha eE=> ?_⟩;obtain⟨h1,h2⟩:=lZ C ha;exact h1 (h.inj C B lc l e hB eE h2 (by rw[hg];rfl))
  ·obtain⟨q1,q2,q3,q4⟩:=h.dR b hb xZ;exact⟨q1,q2,q3,fun C lc e ha=>q4 C lc e (lZ C ha).2⟩
end
def NO(v:xM):Prop:=v= .slice none 0 0\/∃c off n cap,v= .slice (some ⟨c,off,none⟩) n cap
theorem mc.M3{v:xM}(h:mc β b es ty rs v):NO v:=h.elim (fun h=> .inl h.2) fun⟨c,off,cap,_,e,_⟩=> .inr ⟨c,off,_,cap,e⟩
def H5(es:a0k):af where
 f:=fun i=>match es[i]? with|some ⟨_,.slice (some a) _ _,_⟩=>some ⟨a.block,a.off,0,0⟩|_=>none
 z:=fun _=>none
 d:=fun i=>match es[i]? with|some ⟨_,.slice _ n _,_⟩=>some (.sl (List.replicate n []))|_=>none
 x:=⟨fun _=>False,fun _=>none⟩
 o:=fun i=>(es[i]?).map (·.val)
def EM(rows:a0b)(i:Nat):xM:=match rows[i]? with|some [_,.pC]=>J|_=> .iface i (.chan (some (i+1)))
theorem aO7{es:a0k}{i:Nat}(he:es[i]? =some e)(hv:NO e.val):aj (H5 es) (.iface i (.chan (some (i+1)))) e.val:=by
 obtain⟨k,v,bn⟩:=e;rcases hv with rfl|⟨c,off,n,cap,rfl⟩
 ·exact .own i i [] none 0 (by show(es[i]?).map _=_;rw[he];rfl) (.inl ⟨rfl,rfl⟩) (by show(match es[i]? with|some ⟨_,.slice _ n _,_⟩=>some (D.sl (List.replicate n []))|_=>none)=_;rw[he];rfl)
 ·have:=aj.own (β:=H5 es) i i (List.replicate n []) (some ⟨c,off,none⟩) cap (by show(es[i]?).map _=_;grind) (.inr ⟨⟨c,off,0,0⟩,by show(match es[i]? with|some ⟨_,.slice (some a) _ _,_⟩=>some (Loc.mk a.block a.off 0 0)|_=>none)=_;rw[he],rfl⟩) (by show(match es[i]? with|some ⟨_,.slice _ n _,_⟩=>some (D.sl (List.replicate n []))|_=>none)=_;rw[he])
  grind
theorem aO8{es:a0k}{i:Nat}{v:xM}(he:es[i]? =some e)(h:aj (H5 es) (.iface i (.chan (some (i+1)))) v):v=e.val:=by
 cases h with
 |own _ _ rows a cap ho ha hd=>
  have jo:(es[i]?).map (·.val)=some (.slice a rows.length cap):=ho
  grind
section
variable(ok:E.Ok P){sq:a0c}(aR:E.Seq P sq)
include ok aR in
theorem WS{kt:xN}(dW:iw sq kt=some ks)(bI:fC ks kd=some us)(g:Ix ks rows es')(hs:∀(i:Nat) (row:a0d) (e:MapEntry),rows[i]? =some row->es'[i]? =some e->row[1]?≠some fc->NO e.val)(w:World):
 ∃r',(Instr.findKey kt (.agg ⟨us⟩) es').run P w= .ok r' w/\(cY kd rows=none->r'=none)/\(∀j,cY kd rows=some j->∃v1,r'=some (j,v1)/\∀e row,es'[j]? =some e->rows[j]? =some row->row[1]?≠some fc->v1=e.val)/\
  (∀em,(Instr.checkKey em 10000 kt (.agg ⟨us⟩)).run P w= .ok () w)/\Instr.sameBits 10000 (.agg ⟨us⟩) (.agg ⟨us⟩)=true:=by
 have uK:=OJ (E:=E) (sq:=sq) dW (EM rows) bI rows es' 0 g;have gU:rT E sq kt (.agg ⟨us⟩)=true:=by
  unfold rT;have:jg E sq kt (.agg ⟨us⟩) (.agg ⟨us⟩)=some true:=by
   show(match iw sq kt with|some ks=>eZ ks us us|none=>none)=_;rw[dW];show eZ ks us us=_;rw[AK ks kd kd us us bI bI,yG ks kd us bI]
  rw[this]
 have gp:iC (H5 es') (tL (EM rows) es' 0) es':=by
  refine⟨Pp _ _ _,fun i e e' h1 h2=> ?_⟩;rw[Pq _ es' 0 i e' h2] at h1;cases h1;have hi:i<rows.length:=by rw[g.1];exact(xe.1 h2).1
  obtain⟨ds,vs,d,fb,hf,hk⟩:=g.2 i _ e' (xc hi) h2;refine⟨rfl,by show aj _ e'.key e'.key;grind [hk,aj.nu,yK],?_⟩;show aj _ (EM rows (0+i)) e'.val;rw[Nat.zero_add];unfold EM;split
  ·exact .jW _
  ·rename_i bq;refine aO7 h2 (hs i _ e' (xc hi) h2 fun he=> ?_)
   simp_all
 obtain⟨⟨r',f1,f2⟩,f3,f4,f5,f6⟩:=GB (P:=P) ok aR gU (aj.nu (β:=H5 es') (yK _ ks kd us bI)) uK gp w;refine⟨r',f1,fun hn=> ?_,fun j hj=> ?_,f3,f5⟩
 ·rw[hn] at f2;rcases f2 with⟨_,e⟩|⟨_,_,_,e,_⟩
  ·exact e
  ·cases e
 ·rw[hj] at f2;rcases f2 with⟨e,_⟩|⟨j1,v1,sj,e,e2,e5⟩
  ·cases e
  ·have e:some (0+j,EM rows (0+j))=some (j1,v1):=e;injection e with e;injection e with e3 e4;rw[Nat.zero_add] at e3 e4
   grind [EM,absurd,aO8]
end
def TH(E:au)(sq:a0c)(A:AW)(t:xN)(m k:xM):a0q:=
 match E.ti.get none t,m with
 |some ⟨.map kt et,_,_,_,_⟩,.map (some B)=>match iw sq kt,A.get B,yU E et,A.tape with
  |some ks,some ⟨.gM gu c none,es,ex,false,ty⟩,some (.slice none 0 0),nd::r=>match nd.res with
   | .agg ⟨[y,ia,st]⟩=>bs (mI ks gu&&nF nd.k (.DG ks)&&r8 nd.args [c,k]&&eX y&&eX ia&&Nat.ble E.G.n B) (some (.tuple ⟨[.iface A.next ia,st]⟩,((A.pop r).put B (some ⟨.gM gu y none,es,ex,false,ty⟩)).add ⟨.own ia,es,false,false,ty⟩)) none
   |_=>none
  |_,_,_,_=>none
 |_,_=>none
def S1(E:au)(sq:a0c)(A:AW)(t:xN)(m k:xM):a0q:=
 match E.ti.get none t,m with
 |some ⟨.map kt et,_,_,_,_⟩,.map (some B)=>match iw sq kt,A.get B,yU E et,A.tape with
  |some ks,some ⟨.gM gu c none,es,ex,false,ty⟩,some (.slice none 0 0),nd::r=>match nd.res,k with
   | .agg ⟨[y,ia]⟩,.agg ⟨kl⟩=>bs (mI ks gu&&nF nd.k (.DC ks)&&r8 nd.args [c,k]&&eX y&&eX ia&&Nat.ble E.G.n B) (some (.iface A.next ia,(((A.pop r).put B (some ⟨.gM gu y none,es,ex,false,ty⟩)).add ⟨.own ia,es,false,false,ty⟩).put B (some ⟨.gM gu y (some (A.next,kl)),es,ex,false,ty⟩))) none
   |_,_=>none
  |_,_,_,_=>none
 |_,_=>none
def TF(E:au)(A:AW)(m s v:xM):Option AW:=
 match m,v with
 | .map (some B),.iface B2 (.chan (some (_+1)))=>match A.get B,A.get B2 with
  |some ⟨.gM ks c none,es,ex,false,ty⟩,some ⟨.own c2,es2,_,false,qj⟩=>bs (Nat.ble E.G.n B&&Nat.ble E.G.n B2&&Nat.beq es es2&&Nat.beq ty qj) (match nC A .vY [c,s,c2] with
   |some (u,A1)=>some ((A1.put B2 none).put B (some ⟨.gM ks u none,es,ex,false,ty⟩))
   |none=>none) none
  |_,_=>none
 |_,_=>none
section
variable(ok:E.Ok P){sq:a0c}(aR:E.Seq P sq)
theorem mc.loc{c off cap:Nat}(h:mc β b es ty rs (.slice (some ⟨c,off,none⟩) n cap)):∃hh,n=rs.length/\β.y c=some hh/\hh.own=b/\hh.ty=ty/\rs.length<=cap/\off+cap*es<=hh.cs.size/\(∀row∈rs,row.length=es)/\
 ∀(i:Nat) (row:a0d) (j:Nat) (d:D),rs[i]? =some row->row[j]? =some d->∃v,hh.cs[off+(i*es+j)]? =some v/\Rd β.z d v:=by
 rcases h with⟨_,e⟩|⟨c',cu8,ib,hh,e,h⟩
 ·cases e
 grind
theorem mc.bt1{β':af}(hz:β'.z=β.z){v:xM}(hy:∀c h,uM v=some c->β.y c=some h->β'.y c=some h)(h:mc β b es ty rs v):mc β' b es ty rs v:=
 h.imp id fun⟨c,off,cap,h,e1,e2,e3,e4,e5,e6,e7,e8⟩=>⟨c,off,cap,h,e1,hy c h (by rw[e1];rfl) e2,e3,e4,e5,e6,e7,fun i row j d x y=>(e8 i row j d x y).imp fun v ⟨p,q⟩=>⟨p,a0D⟩⟩
theorem Inv.Pu(inv:Inv w0 G β A w){y:xM}(hg:A.get B=some ⟨.gM ks y none,es,ex,false,ty⟩)(hl:β B=some l){co:Nat}(hd:β.d co=some (.sl rs)){v:xM}(hv:mc β l.b es ty rs v)
 (ac5:∀(es':a0k) (ck:Nat) (rows:a0b),w.heap[l.b]? =some (.map ⟨es'⟩ ck)->aZ β.d y=some (.sl rows)->∀(i:Nat) (r:a0d) (e:MapEntry),rows[i]? =some r->r[1]?≠some fc->es'[i]? =some e->∀c,uM e.val=some c->uM v≠some c):
 ∃β',Inv w0 G β' (A.add ⟨.own (.chan (some (co+1))),es,false,false,ty⟩) w/\β.grow β' A.next/\aj β' (.iface A.next (.chan (some (co+1)))) v/\β'.o A.next=some v:=by
 have fR:aZ β.d (.chan (some (co+1)))=some (.sl rs):=by
  show(β.d co).bind _=_;rw[hd];rfl
 rcases hv with⟨rfl,rfl⟩|⟨c,off,cap,hh,rfl,hy,ho,ht,h1,h2,h3,h4⟩
 ·obtain⟨i1,g1⟩:=inv.bq0 (u:= .chan (some (co+1))) (es:=es) (ty:=ty) fR;have Ag:(β.lI A.next (.slice none 0 0)).o A.next=some (.slice none 0 0):=by show(if A.next=A.next then _ else _)=_;rw[if_pos rfl]
  exact⟨_,i1,g1,.own A.next co [] none 0 Ag (.inl ⟨rfl,rfl⟩) hd,Ag⟩
 ·subst ht;have hf:(rc β A.next ⟨c,off,es,hh.cs.size⟩ (.slice (some ⟨c,off,none⟩) rs.length cap) c) A.next=some ⟨c,off,es,hh.cs.size⟩:=by rw[Q5,if_pos rfl]
  have Ag:(rc β A.next ⟨c,off,es,hh.cs.size⟩ (.slice (some ⟨c,off,none⟩) rs.length cap) c).o A.next=some (.slice (some ⟨c,off,none⟩) rs.length cap):=by rw[Q4,if_pos rfl]
  have Aq:off+rs.length*es<=hh.cs.size:=xH (Nat.add_le_add_left (xD es h1) off) h2;obtain⟨i1,g1⟩:=inv.take hy (l:=⟨c,off,es,hh.cs.size⟩) rfl (v:= .slice (some ⟨c,off,none⟩) rs.length cap) (blk:=⟨.own (.chan (some (co+1))),es,false,false,hh.ty⟩)
   ⟨hh.cs,rs,(inv.dR c hh hy).1,rfl,fR,rfl,h3,Aq,h4⟩ ⟨rs,fR,.inr ⟨_,cap,hf,Ag,h1,h2,rfl⟩⟩ (fun C k lc e1 e2 e3=>by
    have hC:C=B:=inv.inj C B lc l e2 hl (e3.trans ho) (by rw[e1];rfl) (by rw[hg];rfl);subst hC;rw[hg] at e1;cases e1;rw[hl] at e2;cases e2;obtain⟨es',ck,rows,td,q1,q2,q3,q4,q5⟩:=inv.cont C _ l hg hl;have pM:td=none:=by cases td with|none=>rfl|some p=>exact q3.elim
    subst pM;refine⟨es',ck,rows,none,q1,q2,trivial,⟨q4.len,fun i row e a1 a2=> ?_,q4.inj,q4.key⟩,q5⟩;obtain⟨ds,vs,d,x1,x2,x3,x4⟩:=q4.row i row e a1 a2;refine⟨ds,vs,d,x1,x2,x3,x4.imp (fun⟨p,_⟩=>⟨p,fun B e=>by cases e⟩) fun⟨Ct,p,q⟩=>⟨Ct,p,mc.bt1 (β:=β) (by rfl) (fun c' h' b1 b2=> ?_) q⟩⟩;have bq:=ac5 es' ck rows q1 q2 i row e a1 a0D a2 c' b1;rw[Q3,if_neg (fun e=>bq (by rw[e];rfl))];exact b2)
  exact⟨_,i1,g1,.own A.next co rs _ cap Ag (.inr ⟨_,hf,rfl⟩) hd,Ag⟩
theorem JE{g:xM->a0w}{x y z:xM}{ds:a0d}(h:aI g [x,y,z]=some ds):∃a b c,ds=[a,b,c]/\g x=some a/\g y=some b/\g z=some c:=by
 obtain⟨a,r,rfl,h1,h2⟩:=iu h;obtain⟨b,c,rfl,h3,h4⟩:=je h2
 grind
theorem mb.M3{tk:Option (Nat×List D)}{kf:a0k}(h:mb β b es ty ks tk rows kf):∀(i:Nat) (row:a0d) (e:MapEntry),rows[i]? =some row->kf[i]? =some e->row[1]?≠some fc->NO e.val:=fun i row e a1 a2 bq=>by
 obtain⟨ds,vs,d,x1,_,_,x4⟩:=h.row i row e a1 a2;rcases x4 with⟨p,_⟩|⟨rs,_,q⟩
 ·grind
 ·exact q.M3
theorem JY(bI:fC ks kd=some us):∀{rows:a0b} {j:Nat},cY kd rows=some j->(∀(i:Nat) (r:a0d),rows[i]? =some r->∃ds vs d,r=[.agg ds,d]/\fC ks ds=some vs)->∃d,rows[j]? =some [.agg kd,d]:=fun{rows j} h hr=>by
 obtain⟨row,h1,h2,h3⟩:=AH h;obtain⟨ds,vs,d,rfl,hf⟩:=hr j row h1;obtain⟨rfl,_⟩:=Kp ks kd ds us vs bI hf h3
 grind
theorem yA{kd:a0d}:∀{rows:a0b},cY kd rows=none->∀(i:Nat) (r:a0d),rows[i]? =some r->lY kd r=false
 |[],_,i,r,h=>by simp at h
 |row::t,hn,i,r,h=>by
  unfold cY at hn;split at hn
  ·cases hn
  ·rename_i hk;cases i with
   |zero=>simp at h;subst h;simpa using hk
   |succ i=>exact yA (by simpa using hn) i r (by simpa using h)
theorem Inv.KQ(inv:Inv w0 G β A w)(hg:A.get B=some blk)(hs:blk.still=false)(hl:β B=some l)(hG:G.n<=B){es2:a0k}{ck ck2:Nat}(g1:w.heap[l.b]? =some (.map ⟨es'⟩ ck)){y:xM}{tk:Option (Nat×List xM)}
 (hb:∃dZ td,aZ β.d y=some (.sl dZ)/\Fh β.d tk td/\mb β l.b es ty ks td dZ es2/\ck2=es2.length/\∀(i:Nat) (e:MapEntry),es2[i]? =some e->e.born=i):
 (setObj l.b (.map ⟨es2⟩ ck2)).run P w= .ok () {w with heap:=w.heap.setIfInBounds l.b (.map ⟨es2⟩ ck2)}/\Inv w0 G β (A.put B (some ⟨.gM ks y tk,es,ex,false,ty⟩)) {w with heap:=w.heap.setIfInBounds l.b (.map ⟨es2⟩ ck2)}:=by
 have bk:l.b<w.heap.size:=(Array.getElem?_eq_some_iff.1 g1).1;refine⟨by simp[setObj,Sem.run,g1],?_⟩;refine inv.write B l _ _ hg hl hG ⟨rfl,rfl,rfl,a0C,fun k hk bq=> ?_⟩ a0C ?_ trivial hs
 ·grind
 ·show gb β l _ ((w.heap.setIfInBounds l.b _)[l.b]?);rw[Array.getElem?_setIfInBounds_self_of_lt bk];obtain⟨dZ,td,h1,h2,h3,h4,h5⟩:=hb;exact⟨es2,ck2,dZ,td,rfl,h1,h2,h3,h4,h5⟩
include ok aR in
theorem bc0{v:xM}(h:TH E sq A t m k=some (v,A'))(inv:Inv w0 E.G β A w)(hm:aj β m m')(hk:aj β k k'):hY w0 E.G β A ((Instr.mapEntry t m' k').run P w) v A'/\A.next<=A'.next:=by
 unfold TH at h;split at h;rotate_left
 ·cases h
 rename_i kt et _ _ _ _ B hr;have hu:=(ok.ti t _ hr).1;split at h;rotate_left
 ·cases h
 rename_i ks gu c es ex ty nd rt dW hg hz ht;split at h;rotate_left
 ·cases h
 rename_i y ia st fH;replace h:=ax h;rcases h with⟨hb,h⟩|⟨_,h⟩;rotate_left
 ·cases h
 cases h;simp only [xf] at hb;obtain⟨⟨⟨⟨⟨b1,b2⟩,b3⟩,b4⟩,b6⟩,b5⟩:=hb;have iV:=rM _ _ b1;subst iV;have eJ:=ph b2;have dV:=sM _ _ b3;have jd:=xh b5;have hq:bP β.d nd:=ok.q _ _ (inv.dJ nd a0D);unfold bP at hq;rw[eJ] at hq;obtain⟨ds,dd,q1,q2,q3⟩:=hq;rw[dV] at q1;rw[fH] at q2;obtain⟨dm,dk,rfl,e1,e2⟩:=je q1;obtain⟨cy,rfl⟩:=qz b4;obtain⟨co,rfl⟩:=qz b6;cases hm with
 |map _ l hl=>
  obtain⟨es',ck,rows,td,g1,g2,pM,g3,g4,g5⟩:=inv.cont B _ l hg hl;have Ad:td=none:=by cases td with|none=>rfl|some p=>exact pM.elim
  subst Ad;rw[lD g2] at e1;cases e1;have aF:Ol ks (.sl rows) dk=some dd:=q3;unfold Ol at aF;split at aF;rotate_left
  ·cases aF
  rename_i iy kd iS;cases iS;split at aF;rotate_left
  ·cases aF
  rename_i iW;obtain⟨us,bI⟩:=Option.isSome_iff_exists.1 iW;have gJ:=eU e2 hk;cases gJ with
  |agg _ iX jO fG=>
  have ig:=AX ks kd us iX bI jO fG;subst ig;obtain⟨r',f1,f2,f3,f4,f5⟩:=WS (P:=P) ok aR dW bI g3.Mh g3.M3 w;have jr:(getObj l.b).run P w= .ok (.map ⟨es'⟩ ck) w:=by simp[getObj,Sem.run,g1]
  have i2:=inv.pop (r:=rt) (fun x hx=>a0D);have mP:∀a b c,dd= .agg [a,b,c]->β.d cy=some a/\β.d co=some b/\eH β.d st=some c:=fun a b c hd=>by
   rw[hd] at q2;obtain⟨NJ,wQ,wP⟩:=xp.1 (show(aI (eH β.d) [.chan (some (cy+1)),.chan (some (co+1)),st]).map D.agg=_ from q2);cases wP;obtain⟨a',b',c',e,r1,r2,r3⟩:=JE wQ;cases e;exact⟨(jv (show iA β.d (.chan (some (cy+1)))=_ from r1)).1,(jv (show iA β.d (.chan (some (co+1)))=_ from r2)).1,r3⟩
  have pU:∀dZ,β.d cy=some (.sl dZ)->aZ β.d (.chan (some (cy+1)))=some (.sl dZ):=fun dZ hh=>by
   show(β.d cy).bind _=_;rw[hh];rfl
  have I0:(A.pop rt).get B=some ⟨.gM ks c none,es,ex,false,ty⟩:=hg;have j4:∀z,((A.pop rt).put B z).next=A.next:=fun _=>rfl
  have Nu:∀z:aE,((A.pop rt).put B (some z)).get B=some z:=fun z=>by
   rcases(A.pop rt).gk B (some z) B with⟨e,_⟩|⟨e,_⟩|⟨_,e⟩
   ·exact e
   ·rcases T.ul none A.heap B (some z) with e2|⟨_,e2⟩
    ·exact e2
    ·exfalso;have:A.heap.get none B=none:=e2;rw[show A.heap.get none B=A.get B from rfl,hg] at this;cases this
   grind
  cases dX:cY kd rows with
  |none=>
   rw[dX] at aF;cases aF;obtain⟨r1,r2,r3⟩:=mP _ _ _ rfl;have cz:=f2 dX;subst cz;obtain⟨z',jz,eP⟩:=J4 (P:=P) ok hz w;have tV:z'= .slice none 0 0:=by have:=eP β;cases this;rfl
   subst tV;have bN3:∀(i:Nat) (r:a0d),rows[i]? =some r->r[0]?≠some (.agg kd):=fun i r hi he=>by
    have aW:i<es'.length:=by rw[<-g3.len];exact(xe.1 hi).1
    obtain⟨ds,vs,d,rfl,hf,_⟩:=g3.row i r _ hi (xc aW);have h0:=yA dX i _ hi
    grind [lY,yG]
   obtain⟨aM,bZ⟩:=i2.KQ (P:=P) I0 rfl hl jd (es2:=es'++[⟨.agg ⟨iX⟩,.slice none 0 0,ck⟩]) (ck2:=ck+1) g1 (ks:=ks) (y:= .chan (some (cy+1))) (tk:=none) (es:=es) (ex:=ex) (ty:=ty)
    ⟨_,none,pU _ r1,trivial,g3.mi (β':=β) (j:=rows.length) (kd:=kd) (d:=fc) (ej:=⟨.agg ⟨iX⟩,.slice none 0 0,ck⟩) (by simp[g3.len]) (fun i r e hi h1 h2=>by
     by_cases bk:i<rows.length
     ·rw[xw bk] at h1;rw[xw (by grind [g3.len])] at h2
      grind
     grind) a0C (by rw[g3.len];simp) bI rfl (.inl ⟨rfl,fun B e=>by cases e⟩) (fun B k e=>by cases e) (fun i r hi h1=>by
     grind) (fun _ _ _ _ _ _ _ _ h=>h) (fun h=>absurd rfl h),by simp[g4],OO g4 g5⟩
   obtain⟨β',i3,g6,x7,_⟩:=bZ.Pu (Nu _) hl (co:=co) (rs:=[]) r2 (v:= .slice none 0 0) (.inl ⟨rfl,rfl⟩) (fun es2 ck2 dZ _ _ i r e _ _ _ c _ h=>by cases h);have SU:ck=rows.length:=by rw[g4,g3.len]
   refine⟨⟨β',.tuple #[.slice none 0 0,goInt ck],_,?_,aj.sK ((aX.nil β').cons (rL (by rw[g6.d];exact r3) (by rw[SU];exact .int _ _))|>.cons x7),i3,g6⟩,Nat.le_succ _⟩;have Ei:(⟨es'⟩:a0z).push ⟨.agg ⟨iX⟩,.slice none 0 0,ck⟩=⟨es'++[⟨.agg ⟨iX⟩,.slice none 0 0,ck⟩]⟩:=by apply Array.ext';simp
   simp only [Instr.mapEntry,Sem.run_bind,run_underlying hu,jr,f4,f1,Result.andThen_ok,jz]
   simp_all
  |some j0=>
   rw[dX] at aF;simp only at aF;split at aF;rotate_left
   ·cases aF
   rename_i k0 rs gR;cases aF;obtain⟨r1,r2,r3⟩:=mP _ _ _ rfl;obtain⟨d0,zy⟩:=JY bI dX (fun i r hi=>by
    have aW:i<es'.length:=by rw[<-g3.len];exact(xe.1 hi).1
    obtain⟨ds,vs,d,x,hf,_⟩:=g3.row i r _ hi (xc aW)
    grind)
   rw[gR] at zy;cases zy;have j5:j0<rows.length:=(xe.1 gR).1;have fV:j0<es'.length:=by rw[<-g3.len];exact j5
   have bT:es'[j0]? =some es'[j0]:=xc fV;obtain⟨yn,vf,d0,bu,o6,qb,FG⟩:=g3.row j0 _ _ gR bT;cases bu;rw[bI] at o6;cases o6;have ER:mc β l.b es ty rs es'[j0].val:=by
    rcases FG with⟨e,_⟩|⟨Ct,e,q⟩
    ·cases e
    ·grind
   obtain⟨v1,cz,mq⟩:=f3 j0 dX;have SA:=mq _ _ bT gR a0D;subst cz SA;have UM:=g5 j0 _ bT;have YH:∀(i:Nat) (r:a0d) (e:MapEntry),i≠j0->(rows.set j0 [.agg kd,fc])[i]? =some r->(es'.set j0 ⟨.agg ⟨iX⟩,es'[j0].val,es'[j0].born⟩)[i]? =some e->rows[i]? =some r/\∃e0,es'[i]? =some e0/\e.key=e0.key/\e.val=e0.val:=fun i r e hi h1 h2=>by
    grind
   obtain⟨aM,bZ⟩:=i2.KQ (P:=P) I0 rfl hl jd (es2:=es'.set j0 ⟨.agg ⟨iX⟩,es'[j0].val,es'[j0].born⟩) (ck2:=ck) g1 (ks:=ks) (y:= .chan (some (cy+1))) (tk:=none) (es:=es) (ex:=ex) (ty:=ty)
    ⟨_,none,pU _ r1,trivial,g3.mi (β':=β) (j:=j0) (kd:=kd) (d:=fc) (ej:=⟨.agg ⟨iX⟩,es'[j0].val,es'[j0].born⟩) (by simp[g3.len]) YH (List.getElem?_set_self j5) (List.getElem?_set_self fV) bI rfl (.inl ⟨rfl,fun B e=>by cases e⟩) (fun B k e=>by cases e) (fun i r hi h1 he=>by
     rw[List.getElem?_set_ne (Ne.symm hi)] at h1
     grind [g3.key]) (fun _ _ _ _ _ _ _ _ h=>h) (fun h=>absurd rfl h),by simp[g4],Gr g5 bT⟩
   obtain⟨β',i3,g6,x7,_⟩:=bZ.Pu (Nu _) hl (co:=co) (rs:=rs) r2 (v:=es'[j0].val) ER (fun es2 ck2 dZ hh hd i r e h1 h2 h3 cc js bF=>by
    have Ns:(w.heap.setIfInBounds l.b (.map ⟨es'.set j0 ⟨.agg ⟨iX⟩,es'[j0].val,es'[j0].born⟩⟩ ck))[l.b]? =some (.map ⟨es2⟩ ck2):=hh;rw[Array.getElem?_setIfInBounds_self_of_lt (Array.getElem?_eq_some_iff.1 g1).1] at Ns;cases Ns;rw[pU _ r1] at hd;cases hd;by_cases hi:i=j0
    ·grind
    ·obtain⟨x1,e0,x2,x3,x4⟩:=YH i r e hi h1 h3;exact hi (g3.inj i j0 r _ e0 _ cc x1 gR h2 a0D x2 bT a0D bF))
   refine⟨⟨β',.tuple #[es'[j0].val,goInt j0],_,?_,aj.sK ((aX.nil β').cons (rL (by rw[g6.d];exact r3) (.int _ _))|>.cons x7),i3,g6⟩,Nat.le_succ _⟩;have wJ:=Dd bT (fun e=>{e with key:= .agg ⟨iX⟩});have B8:(Instr.keyThatStays ((((⟨es'⟩:a0z)[j0]?).map (·.key)).getD (.agg ⟨iX⟩)) (.agg ⟨iX⟩)).run P w= .ok (.agg ⟨iX⟩) w:=by
    have:(((⟨es'⟩:a0z)[j0]?).map (·.key)).getD (.agg ⟨iX⟩)= .agg ⟨iX⟩:=by simp[bT,qb]
    rw[this];simp[Instr.keyThatStays,f5]
   have Ao:(((⟨es'⟩:a0z)[j0]?).map (fun x=>(x.born:Int))).getD 0=(j0:Int):=by simp[bT,UM]
   simp only [Instr.mapEntry,Sem.run_bind,run_underlying hu,jr,f4,f1,Result.andThen_ok,B8,Ao]
   simp_all
theorem Od{C:Nat}{o:Option aE}(h:B≠C):(A.put B o).get C=A.get C:=T.um none A.heap _ _ _ h
theorem VL{o:Option aE}{b:aE}(h:A.get B=some b):(A.put B o).get B=o:=by
 rcases A.gk B o B with⟨e,_⟩|⟨e,_⟩|⟨_,e⟩
 ·exact e
 ·rcases T.ul none A.heap B o with e2|⟨_,e2⟩
  ·exact e2
  ·exfalso;have:A.heap.get none B=none:=e2;rw[show A.heap.get none B=A.get B from rfl,h] at this;cases this
 grind
theorem Inv.YJ(inv:Inv w0 G β A w){B2:Nat}{u:xM}(ob:Nat)(hg:A.get B2=some ⟨.own u,es,ex,false,ty⟩)(hG:G.n<=B2){v:xM}(hv:β.o B2=some v):
 ∃β' rows,Inv w0 G β' (A.put B2 none) w/\(∀n,β.grow β' n)/\aZ β.d u=some (.sl rows)/\mc β' ob es ty rows v/\(∀b h,β.y b=some h->β'.y b=some h)/\∀c,uM v=some c->β.y c=none:=by
 obtain⟨rows,h1,h2⟩:=inv.own B2 _ hg;rcases h2 with⟨rfl,ho⟩|⟨l,cap,hl,ho,h3,h4,h5⟩
 ·rw[hv] at ho;cases ho;exact⟨β,[],inv.kill B2,fun n=>af.cb _ _,h1,.inl ⟨rfl,rfl⟩,fun _ _ h=>h,fun c h=>by cases h⟩
 ·rw[hv] at ho;cases ho;obtain⟨aB,Lj,c1,c2,c3,c4,c5,c6,c7⟩:=inv.cont B2 _ l hg hl;rw[h1] at c3;cases c3;have Uh:=inv.GM hl (by rw[hg];rfl);have h5':l.es=es:=h5;refine⟨_,rows,inv.bG8 ob hg rfl hl hG c1,fun n=>aP6 _ _ n,h1,.inr ⟨l.b,l.d,cap,_,rfl,by rw[LF,if_pos rfl],rfl,rfl,h3,a0D,fun row hr=>a0D,fun i row j d x y=>by rw[<-h5'];exact c7 i row j d x y⟩,fun b h e=> ?_,fun c h=> ?_⟩
  ·rw[LF,if_neg (fun e2=>a0D)];exact e
  ·cases h;exact Uh
include ok in
theorem bb8{s s' v v':xM}(h:TF E A m s v=some A')(inv:Inv w0 E.G β A w)(hm:aj β m m')(hs:aj β s s')(hv:aj β v v'):∃β' w',(Instr.entryStore t m' s' v').run P w= .ok () w'/\Inv w0 E.G β' A' w'/\β.grow β' A.next/\A.next<=A'.next:=by
 unfold TF at h;split at h;rotate_left
 ·cases h
 rename_i B B2 cv;split at h;rotate_left
 ·cases h
 rename_i ks c es ex ty c2 es2 ym qj hg fA;replace h:=ax h;rcases h with⟨hb,h⟩|⟨_,h⟩;rotate_left
 ·cases h
 simp only [xf] at hb;obtain⟨⟨⟨b1,b2⟩,b3⟩,b4⟩:=hb;have hG:=xh b1;have UZ:=xh b2;obtain rfl:=xb b3;obtain rfl:=xb b4;split at h;rotate_left
 ·cases h
 rename_i u A1 eI;cases h;have bq:B2≠B:=fun e=>a0D
 obtain⟨nd,rt,cu,ht,eJ,dV,fH,rfl,rfl⟩:=nW eI;have hq:bP β.d nd:=ok.q _ _ (inv.dJ nd a0D);unfold bP at hq;rw[eJ] at hq;obtain⟨ds,dd,q1,q2,q3⟩:=hq;rw[dV] at q1;rw[fH] at q2;obtain⟨q4,q5⟩:=jv q2;obtain⟨dm,dk,dv,rfl,e1,e2,e3⟩:=JE q1;have i2:=inv.pop (r:=rt) (fun x hx=>a0D);cases hm with
 |map _ l hl=>
  have Uk:β.o B2=some v':=by
   cases hv with
   |own _ _ rows a cap h ha hd=>exact h
  obtain⟨β',rs,i3,g6,dY,ER,Ng,hyn⟩:=i2.YJ l.b fA UZ Uk;rw[lD dY] at e3;cases e3;obtain⟨es',ck,rows,td,g1,g2,pM,g3,g4,g5⟩:=inv.cont B _ l hg hl;have Ad:td=none:=by cases td with|none=>rfl|some p=>exact pM.elim
  subst Ad;rw[lD g2] at e1;cases e1;have aF:Gb (.sl rows) dk (.sl rs)=some dd:=q3;unfold Gb at aF;split at aF;rotate_left
  ·cases aF
  rename_i iy j0 iS;cases iS;split at aF;rotate_left
  ·cases aF
  rename_i k0 od gR;rw[if_pos (show(D.sl rs).cell=true from rfl)] at aF;cases aF;have cL:=eU e2 hs;cases cL;have j5:j0<rows.length:=(xe.1 gR).1;have fV:j0<es'.length:=by rw[<-g3.len];exact j5
  have bT:es'[j0]? =some es'[j0]:=xc fV;obtain⟨kd,us,d0,bu,o6,qb,FG⟩:=g3.row j0 _ _ gR bT;cases bu;have jr:(getObj l.b).run P w= .ok (.map ⟨es'⟩ ck) w:=by simp[getObj,Sem.run,g1]
  have dQ:β' B=some l:=((g6 (A.next)).f B (inv.fI B l hl)).trans hl;obtain⟨aM,bZ⟩:=i3.KQ (P:=P) (by rw[Od bq];exact hg) rfl dQ hG (es2:=es'.set j0 ⟨es'[j0].key,v',es'[j0].born⟩) (ck2:=ck) g1 (ks:=ks) (y:= .chan (some (cu+1))) (tk:=none) (es:=es) (ex:=ex) (ty:=ty)
   ⟨_,none,by rw[(g6 A.next).d];show(β.d cu).bind _=_;rw[q4];rfl,trivial,g3.mi (β':=β') (j:=j0) (kd:=kd) (d:= .sl rs) (ej:=⟨es'[j0].key,v',es'[j0].born⟩) (by simp[g3.len]) (fun i r e hi h1 h2=>by
    grind) (List.getElem?_set_self j5) (List.getElem?_set_self fV) o6 qb (.inr ⟨rs,rfl,ER⟩) (fun B k e=>by cases e) (fun i r hi h1 he=>by
    rw[List.getElem?_set_ne (Ne.symm hi)] at h1
    grind [g3.key]) (fun i r Ct e hi h1 h2 h3 hq=>hq.mono (g6 A.next).z (fun c h e1 _=>Ng c h e1)) (fun _ i r e c hi h1 h2 h3 js bF=>by
    obtain⟨ds,vs,d,x1,_,_,x4⟩:=g3.row i r e h1 h3;rcases x4 with⟨p,_⟩|⟨Ct,_,q⟩
    ·grind
    ·rcases q with⟨_,o3⟩|⟨c',off,cap,hh,o3,hy1,_⟩
     ·rw[o3] at js;cases js
     ·rw[o3] at js;cases js
      grind),by simp[g4],Gr g5 bT⟩
  refine⟨β',_,?_,bZ,g6 _,xk _⟩;have wJ:=Dd bT (fun e=>{e with val:=v'});have EQ:=WZ g5 fV
  grind [Instr.entryStore,Sem.run_bind,Result.andThen_ok,asInt,asIntOf,Sem.run_pure]
include ok aR in
theorem ba5{v:xM}(h:S1 E sq A t m k=some (v,A'))(inv:Inv w0 E.G β A w)(hm:aj β m m')(hk:aj β k k'):hY w0 E.G β A ((Instr.lookup t m' k' false).run P w) v A'/\A.next<=A'.next:=by
 unfold S1 at h;split at h;rotate_left
 ·cases h
 rename_i kt et _ _ _ _ B hr;have hu:=(ok.ti t _ hr).1;split at h;rotate_left
 ·cases h
 rename_i ks gu c es ex ty nd rt dW hg hz ht;split at h;rotate_left
 ·cases h
 rename_i y ia kl fH;replace h:=ax h;rcases h with⟨hb,h⟩|⟨_,h⟩;rotate_left
 ·cases h
 cases h;simp only [xf] at hb;obtain⟨⟨⟨⟨⟨b1,b2⟩,b3⟩,b4⟩,b6⟩,b5⟩:=hb;have iV:=rM _ _ b1;subst iV;have eJ:=ph b2;have dV:=sM _ _ b3;have jd:=xh b5;have hq:bP β.d nd:=ok.q _ _ (inv.dJ nd a0D);unfold bP at hq;rw[eJ] at hq;obtain⟨ds,dd,q1,q2,q3⟩:=hq;rw[dV] at q1;rw[fH] at q2;obtain⟨dm,dk,rfl,e1,e2⟩:=je q1;obtain⟨cy,rfl⟩:=qz b4;obtain⟨co,rfl⟩:=qz b6;cases hm with
 |map _ l hl=>
  obtain⟨es',ck,rows,td,g1,g2,pM,g3,g4,g5⟩:=inv.cont B _ l hg hl;have Ad:td=none:=by cases td with|none=>rfl|some p=>exact pM.elim
  subst Ad;rw[lD g2] at e1;cases e1;have aF:Oi ks (.sl rows) dk=some dd:=q3;unfold Oi at aF;split at aF;rotate_left
  ·cases aF
  rename_i iy kd iS;cases iS;split at aF;rotate_left
  ·cases aF
  rename_i iW;obtain⟨us,bI⟩:=Option.isSome_iff_exists.1 iW;have gJ:=eU e2 hk;have FC:aI (aZ β.d) kl=some kd:=by
   obtain⟨x,h1,h2⟩:=xp.1 (show(aI (aZ β.d) kl).map D.agg=_ from e2);cases h2;exact h1
  cases gJ with
  |agg _ iX jO fG=>
  have ig:=AX ks kd us iX bI jO fG;subst ig;obtain⟨r',f1,f2,f3,f4,f5⟩:=WS (P:=P) ok aR dW bI g3.Mh g3.M3 w;have jr:(getObj l.b).run P w= .ok (.map ⟨es'⟩ ck) w:=by simp[getObj,Sem.run,g1]
  have i2:=inv.pop (r:=rt) (fun x hx=>a0D);have mP:∀a b,dd= .agg [a,b]->β.d cy=some a/\β.d co=some b:=fun a b hd=>by
   rw[hd] at q2;obtain⟨NJ,wQ,wP⟩:=xp.1 (show(aI (eH β.d) [.chan (some (cy+1)),.chan (some (co+1))]).map D.agg=_ from q2);cases wP;obtain⟨a',b',e,r1,r2⟩:=je wQ;cases e;exact⟨(jv (show iA β.d (.chan (some (cy+1)))=_ from r1)).1,(jv (show iA β.d (.chan (some (co+1)))=_ from r2)).1⟩
  have pU:∀dZ,β.d cy=some (.sl dZ)->aZ β.d (.chan (some (cy+1)))=some (.sl dZ):=fun dZ hh=>by
   show(β.d cy).bind _=_;rw[hh];rfl
  have I0:(A.pop rt).get B=some ⟨.gM ks c none,es,ex,false,ty⟩:=hg;have oB:B<A.next:=inv.fI B l hl;have fin:∀(dZ:a0b) (rs:a0b) (v1:xM),β.d cy=some (.sl dZ)->β.d co=some (.sl rs)->mc β l.b es ty rs v1->mb β l.b es ty ks none dZ es'->(∀(i:Nat) (r:a0d) (e:MapEntry),dZ[i]? =some r->r[1]?≠some fc->es'[i]? =some e->∀c,uM e.val=some c->uM v1≠some c)->
   (∀(i:Nat) (r:a0d) (e:MapEntry),dZ[i]? =some r->r[0]? =some (.agg kd)->es'[i]? =some e->e.val=v1)->∃β',Inv w0 E.G β' ((((A.pop rt).put B (some ⟨.gM ks (.chan (some (cy+1))) none,es,ex,false,ty⟩)).add ⟨.own (.chan (some (co+1))),es,false,false,ty⟩).put B (some ⟨.gM ks (.chan (some (cy+1))) (some (A.next,kl)),es,ex,false,ty⟩)) w/\β.grow β' A.next/\aj β' (.iface A.next (.chan (some (co+1)))) v1:=by
   intro dZ rs v1 r1 r2 hh hmo ac5 mW;have i3:Inv w0 E.G β ((A.pop rt).put B (some ⟨.gM ks (.chan (some (cy+1))) none,es,ex,false,ty⟩)) w:=i2.write B l _ _ I0 hl jd ⟨rfl,rfl,rfl,xk _,fun _ _ _=>rfl⟩ rfl ⟨es',ck,dZ,none,g1,pU _ r1,trivial,hmo,g4,g5⟩;obtain⟨β',i4,g6,x7,Ag⟩:=i3.Pu (VL I0) hl (co:=co) (rs:=rs) r2 (v:=v1) hh (fun es2 ck2 Rg hh hd i r e h1 h2 h3=>by
    grind)
   have Nq:β' B=some l:=(g6.f B oB).trans hl;have hg4:(((A.pop rt).put B (some ⟨.gM ks (.chan (some (cy+1))) none,es,ex,false,ty⟩)).add ⟨.own (.chan (some (co+1))),es,false,false,ty⟩).get B=some ⟨.gM ks (.chan (some (cy+1))) none,es,ex,false,ty⟩:=by
    rcases((A.pop rt).put B (some ⟨.gM ks (.chan (some (cy+1))) none,es,ex,false,ty⟩)).ni ⟨.own (.chan (some (co+1))),es,false,false,ty⟩ (i3.cW _ (xk _)) B with⟨_,e⟩|e
    ·exact absurd e (Nat.ne_of_lt oB)
    ·grind [VL]
   obtain⟨es5,ck5,cb7,td5,p1,p2,p3,p4,p5⟩:=i4.cont B _ l hg4 Nq;rw[g1] at p1;cases p1;rw[g6.d,pU _ r1] at p2;cases p2;have Ad:td5=none:=by cases td5 with|none=>rfl|some p=>exact p3.elim
   subst Ad;refine⟨β',i4.write B l _ _ hg4 Nq jd ⟨rfl,rfl,rfl,xk _,fun _ _ _=>rfl⟩ rfl ⟨es',ck,dZ,some (A.next,kd),g1,by grind [g6.d],⟨rfl,by grind [g6.d]⟩,⟨p4.len,fun i row e a1 a2=> ?_,p4.inj,p4.key⟩,p5⟩,g6,x7⟩;obtain⟨ds,vs,d,x1,x2,x3,x4⟩:=p4.row i row e a1 a2;refine⟨ds,vs,d,x1,x2,x3,x4.imp (fun⟨p,_⟩=>⟨p,fun B' e'=> ?_⟩) id⟩;cases e';rw[mW i row e a1 (by rw[x1];rfl) a2];exact Ag
  cases dX:cY kd rows with
  |none=>
   rw[dX] at aF;cases aF;obtain⟨r1,r2⟩:=mP _ _ rfl;have cz:=f2 dX;subst cz;obtain⟨z',jz,eP⟩:=J4 (P:=P) ok hz w;have tV:z'= .slice none 0 0:=by have:=eP β;cases this;rfl
   subst tV;obtain⟨β',i5,g6,x7⟩:=fin rows [] (.slice none 0 0) r1 r2 (.inl ⟨rfl,rfl⟩) g3 (fun _ _ _ _ _ _ _ _ h=>by cases h) (fun i r e hi he h3=>by
    exfalso;obtain⟨ds,vs,d,x1,hf,_⟩:=g3.row i r _ hi h3;have h0:=yA dX i _ hi
    grind [lY,yG])
   refine⟨⟨β',.slice none 0 0,w,?_,x7,i5,g6⟩,Nat.le_succ _⟩;simp[Instr.lookup,run_underlying hu,f4,f1,jz,getObj,Sem.run,g1]
  |some j0=>
   rw[dX] at aF;simp only at aF;split at aF;rotate_left
   ·cases aF
   rename_i k0 rs gR;cases aF;obtain⟨r1,r2⟩:=mP _ _ rfl;obtain⟨d0,zy⟩:=JY bI dX (fun i r hi=>by
    have aW:i<es'.length:=by rw[<-g3.len];exact(xe.1 hi).1
    obtain⟨ds,vs,d,x,hf,_⟩:=g3.row i r _ hi (xc aW)
    grind)
   rw[gR] at zy;cases zy;have j5:j0<rows.length:=(xe.1 gR).1;have fV:j0<es'.length:=by rw[<-g3.len];exact j5
   have bT:es'[j0]? =some es'[j0]:=xc fV;obtain⟨yn,vf,d0,bu,o6,qb,FG⟩:=g3.row j0 _ _ gR bT;cases bu;rw[bI] at o6;cases o6;have ER:mc β l.b es ty rs es'[j0].val:=by
    rcases FG with⟨e,_⟩|⟨Ct,e,q⟩
    ·cases e
    ·grind
   obtain⟨v1,cz,mq⟩:=f3 j0 dX;have SA:=mq _ _ bT gR a0D;subst cz SA;have kU:∀(i:Nat) (r:a0d),i≠j0->(rows.set j0 [.agg kd,fc])[i]? =some r->rows[i]? =some r:=fun i r hi h1=>a0D
   obtain⟨β',i5,g6,x7⟩:=fin (rows.set j0 [.agg kd,fc]) rs es'[j0].val r1 r2 ER (g3.mi (β':=β) (j:=j0) (kd:=kd) (d:=fc) (ej:=es'[j0]) (by simp[g3.len]) (fun i r e hi h1 h2=>⟨kU i r hi h1,e,h2,rfl,rfl⟩) (List.getElem?_set_self j5) bT bI qb (.inl ⟨rfl,fun B e=>by cases e⟩) (fun B k e=>by cases e) (fun i r hi h1 he=>hi (g3.key i j0 r _ (kU i r hi h1) gR (by rw[he];rfl))) (fun _ _ _ _ _ _ _ _ h=>h) (fun h=>absurd rfl h))
    (fun i r e h1 h2 h3 cc js bF=>by
     by_cases hi:i=j0
     ·grind
     ·exact hi (g3.inj i j0 r _ e _ cc (kU i r hi h1) gR h2 a0D h3 bT js bF))
    (fun i r e h1 he h3=>by
     grind [absurd,g3.key])
   refine⟨⟨β',es'[j0].val,w,?_,x7,i5,g6⟩,Nat.le_succ _⟩;simp[Instr.lookup,run_underlying hu,f4,f1,getObj,Sem.run,g1]
theorem aG3(bI:fC ks kd=some us){iy:a0b}(hp:List.Perm rows iy)(hr:∀r∈iy,∃ds vs d,r=[.agg ds,d]/\fC ks ds=some vs)(hk:∀(i j:Nat) (r r':a0d),iy[i]? =some r->iy[j]? =some r'->r[0]? =r'[0]?->i=j):nI kd rows=nI kd iy:=by
 have Vl:∀{l:a0b},(∀r∈l,∃ds vs d,r=[.agg ds,d]/\fC ks ds=some vs)->∀{o},nI kd l=some o->[.agg kd,o]∈l:=fun{l} hl {o} ho=>by
  cases dX:cY kd l with
  |none=>grind [JJ]
  |some j=>
   obtain⟨row,h1,h2,h3⟩:=AH dX;obtain⟨d,h4⟩:=JY bI dX (fun i r hi=>hl r (xu hi))
   grind
 have at2:∀{l:a0b} {o},[.agg kd,o]∈l->∃o',nI kd l=some o':=fun{l o} h=>by
  cases dX:cY kd l with
  |none=>
   obtain⟨i,hi⟩:=List.mem_iff_getElem?.1 h;have:=yA dX i _ hi
   grind [lY,yG]
  |some j=>
   obtain⟨row,h1,h2,h3⟩:=AH dX;cases row with
   |nil=>cases h3
   |cons a row=>cases row with
    |nil=>cases a<;>cases h3
    |cons b row=>grind
 have cz:∀r∈rows,∃ds vs d,r=[.agg ds,d]/\fC ks ds=some vs:=fun r h=>hr r (hp.mem_iff.1 h)
 cases ha:nI kd rows with
 |none=>
  cases hb:nI kd iy with
  |none=>rfl
  |some o=>
   grind
 |some o=>
  obtain⟨o',hb⟩:=at2 (hp.mem_iff.1 (Vl cz ha));rw[hb];obtain⟨i,hi⟩:=List.mem_iff_getElem?.1 (hp.mem_iff.1 (Vl cz ha));obtain⟨j,hj⟩:=List.mem_iff_getElem?.1 (Vl hr hb)
  grind
def S2(E:au)(sq:a0c)(A:AW)(t:xN)(m k:xM):a0q:=
 match E.ti.get none t,m with
 |some ⟨.map kt et,_,_,_,_⟩,.map (some B)=>match iw sq kt,A.get B,yU E et,A.tape with
  |some ks,some ⟨.r9 gu c,_,_,_,_⟩,some z,nd::r=>bs (mI ks gu&&nF nd.k (.DF ks)&&r8 nd.args [c,k,z]) (some (nd.res,A.pop r)) none
  |_,_,_,_=>none
 |_,_=>none
include ok aR in
theorem ba6{v:xM}(h:S2 E sq A t m k=some (v,A'))(inv:Inv w0 E.G β A w)(hm:aj β m m')(hk:aj β k k'):hY w0 E.G β A ((Instr.lookup t m' k' false).run P w) v A'/\A.next<=A'.next:=by
 unfold S2 at h;split at h;rotate_left
 ·cases h
 rename_i kt et _ _ _ _ B hr;have hu:=(ok.ti t _ hr).1;split at h;rotate_left
 ·cases h
 rename_i ks gu c a b d ty z nd r dW hg hz ht;replace h:=ax h;rcases h with⟨hb,h⟩|⟨_,h⟩;rotate_left
 ·cases h
 cases h;simp only [xf] at hb;obtain⟨⟨b1,b2⟩,b3⟩:=hb;have iV:=rM _ _ b1;subst iV;have eJ:=ph b2;have dV:=sM _ _ b3;have hq:bP β.d nd:=ok.q _ _ (inv.dJ nd a0D);unfold bP at hq;rw[eJ] at hq;obtain⟨ds,dd,q1,q2,q3⟩:=hq;rw[dV] at q1;obtain⟨dm,dk,dz,rfl,e1,e2,e3⟩:=JE q1;have i2:=inv.pop (r:=r) (fun x hx=>a0D);cases hm with
 |map _ l hl=>
  obtain⟨es',ck,rows,g1,g2,iy,g3,g4,g5⟩:=inv.cont B _ l hg hl;rw[lD g2] at e1;cases e1;have aF:Gc ks (.sl rows) dk dz=some dd:=q3;unfold Gc at aF;split at aF;rotate_left
  ·cases aF
  rename_i Hq kd iS;cases iS;split at aF;rotate_left
  ·cases aF
  rename_i iW;obtain⟨vs,bI⟩:=Option.isSome_iff_exists.1 iW;cases aF;have gJ:=eU e2 hk;cases gJ with
  |agg _ us jO fG=>
  have ig:=AX ks kd vs us bI jO fG;subst ig;rw[aG3 bI g3 (fun r h=>by
   obtain⟨i,hi⟩:=List.mem_iff_getElem?.1 h;have aW:i<es'.length:=by rw[<-g4.1];exact(xe.1 hi).1
   obtain⟨ds,vs,d,x,y,_⟩:=g4.2 i r _ hi (xc aW)
   grind) g5] at q2
  obtain⟨v',h1,h2⟩:=Xu (P:=P) ok aR hu dW hz e3 g1 g4 bI q2;exact⟨⟨β,v',w,h1,h2,i2,af.cb _ _⟩,xk _⟩
def Fm(x y:Option α):Option α:=match x with|some a=>some a|none=>y
def an3(E:au)(sq:a0c)(A:AW)(t:xN)(m k:xM):a0q:=Fm (S0 E sq A t m k) (Fm (S1 E sq A t m k) (S2 E sq A t m k))
def as2(E:au)(sq:a0c)(A:AW)(t:xN)(m k:xM):a0q:=Fm (TG E sq A t m k) (TH E sq A t m k)
def as1(E:au)(A:AW)(m s v:xM):Option AW:=Fm (TE E A m s v) (TF E A m s v)
theorem JS{x y:Option α}{a:α}(h:Fm x y=some a):x=some a\/y=some a:=by
 unfold Fm at h
 grind
include ok aR in
theorem bw9{v:xM}(h:an3 E sq A t m k=some (v,A'))(inv:Inv w0 E.G β A w)(hm:aj β m m')(hk:aj β k k'):hY w0 E.G β A ((Instr.lookup t m' k' false).run P w) v A'/\A.next<=A'.next:=by
 rcases JS h with h|h
 ·obtain⟨v',hr,hv,hi,hn⟩:=ba4 ok aR h inv hm hk;exact⟨⟨β,v',w,hr,hv,hi,af.cb _ _⟩,hn⟩
 grind [JS,ba5,hk,ba6]
include ok aR in
theorem by9{v:xM}(h:as2 E sq A t m k=some (v,A'))(inv:Inv w0 E.G β A w)(hm:aj β m m')(hk:aj β k k'):hY w0 E.G β A ((Instr.mapEntry t m' k').run P w) v A'/\A.next<=A'.next:=by
 rcases JS h with h|h
 ·obtain⟨v',w',hr,hv,hi,hn⟩:=bb9 ok aR h inv hm hk;exact⟨⟨β,v',w',hr,hv,hi,af.cb _ _⟩,hn⟩
 grind [bc0,hk]
include ok in
theorem by8{s s' v v':xM}(h:as1 E A m s v=some A')(inv:Inv w0 E.G β A w)(hm:aj β m m')(hs:aj β s s')(hv:aj β v v'):∃β' w',(Instr.entryStore t m' s' v').run P w= .ok () w'/\Inv w0 E.G β' A' w'/\β.grow β' A.next/\A.next<=A'.next:=by
 rcases JS h with h|h
 ·obtain⟨w',hr,hi,hn⟩:=bb7 (t:=t) ok h inv hm hs hv
  grind [af.cb]
 ·exact bb8 ok h inv hm hs hv
end
inductive eL where
 |fn (f:FuncId)
 |rd (L:Nat)
inductive R where
 |fail
 |val (v:xM) (A:AW)
 |call (f:eL) (args:a0e)
 |nd (l:List (xM×AW))
def eO(A:AW)(x:a0t):R:=match x with|some v=> .val v A|none=> .fail
def ez(x:a0q):R:=match x with|some (v,A)=> .val v A|none=> .fail
def ql(x:Option AW):R:=match x with|some A=> .val undef A|none=> .fail
def IG(x:Option (List (xM×AW))):R:=match x with|some l=> .nd l|none=> .fail
def Mc(x:xM):a0t:=
 match x with
 | .pointer (some a)=>some (.pointer (some a))
 |_=>none
def Ln(c a b:xM):a0t:=match c with| .bool t=>some (bs t a b)|_=>none
def neV(E:au)(g:FuncId)(p args q:a0e):a0t:=
 match p,args,q with
 |[],[x],[]=>bs (Ft g E.ne) (some x) none
 |_,_,_=>none
def zB(E:au)(A:AW)(f:xM)(args:a0e):R:=
 match f with
 | .func (.func g) ⟨p⟩ ⟨q⟩=>match E.fn.get none g with
  |some ⟨_,_,_,_,_,_,_,_,some _,_,_,_,_,_,_,_⟩=> .call (.fn g) (iU (iU p args) q)
  |_=>eO A (neV E g p args q)
 | .func (.yield L) ⟨[]⟩ ⟨[]⟩=> .call (.rd L) args
 |_=> .fail
def Eu(E:au)(A:AW)(s d:xN)(x:xM):R:=
 match BJ E s d x with
 |some v=> .val v A
 |none=>match Q2 E A s d x with
  |some v=> .val v A
  |none=> .fail
def Dw(E:au)(A:AW)(b:Builtin)(tys:List xN)(vs:a0e):R:=
 match b,tys,vs with
 | .len,[t],[x]=>eO A (Sx E A t x)
 | .append,[t,tx],[s,x]=>ez (DN E A t tx s x)
 | .cap,[t],[x]=>eO A (TM E t x)
 |_,_,_=> .fail
theorem Dp{f:α->γ}{l:List α}{x:γ}(h:eY f l=[x]):∃a,l=[a]/\f a=x:=by
 rw[pj] at h
 simp_all
theorem JV{f:α->γ}{l:List α}{x y:γ}(h:eY f l=[x,y]):∃a b,l=[a,b]/\f a=x/\f b=y:=by
 rw[pj] at h
 match l,h with
 |[a,b],h=>grind
def aV(E:au)(sq:a0c)(A:AW)(fr:Gt)(op:Op):R:=
 match op with
 | .move x=> .val (ev E fr x) A
 | .assign x=> .val (ev E fr x) A
 | .pick c a b=>eO A (Ln (ev E fr c) (ev E fr a) (ev E fr b))
 | .alloc t=>ez (y9 E A t)
 | .box t x=>ez (zT A t (ev E fr x))
 | .build t ⟨ps⟩=>eO A (K9 E t (eY (fun p=>(p.1,ev E fr p.2)) ps))
 | .buildSlice t len ⟨ps⟩=>ez (yx E A t len (eY (fun p=>(p.1,ev E fr p.2)) ps))
 | .load t a=>eO A (zt E A t (ev E fr a))
 | .store t a x=>ql (yV E A t (ev E fr a) (ev E fr x))
 | .nilCheck x=>eO A (Mc (ev E fr x))
 | .binOp op t x y _=>eO A (ft E sq op t (ev E fr x) (ev E fr y))
 | .unOp op _ x=>eO A (Cq op (ev E fr x))
 | .convert s d x=>Eu E A s d (ev E fr x)
 | .makeFunc (.func f) ⟨p⟩ ⟨q⟩=> .val (.func (.func f) ⟨eY (ev E fr) p⟩ ⟨eY (ev E fr) q⟩) A
 | .makeSlice t l c=>ez (yz E A t (ev E fr l) (ev E fr c))
 | .slice t x lo hi mx=>eO A (KF E A t (ev E fr x) (lo.map (ev E fr)) (hi.map (ev E fr)) (mx.map (ev E fr)))
 | .fieldAddr t x f=>eO A (JD E t (ev E fr x) f)
 | .field t x f=>eO A (K4 E t (ev E fr x) f)
 | .indexAddr t x i=>eO A (JC E t (ev E fr x) (ev E fr i))
 | .index t x i=>eO A (DZ E t (ev E fr x) (ev E fr i))
 | .extract x i=>eO A (J1 (ev E fr x) i)
 | .call ⟨.value f,⟨args⟩,_⟩=>zB E A (ev E fr f) (eY (ev E fr) args)
 | .call ⟨.builtin b,⟨args⟩,⟨tys⟩⟩=>Dw E A b tys (eY (ev E fr) args)
 | .range t x=>ez (DW E A t (ev E fr x))
 | .next it false=>IG (Lq E A (ev E fr it))
 | .entry it=>eO A (KW A (ev E fr it))
 |_=> .fail
def bt2(E:au)(A:AW)(fr:Gt)(f:Fn)(p q:List Operand):R:=
 match f with
 | .func f=> .val (.func (.func f) ⟨eY (ev E fr) p⟩ ⟨eY (ev E fr) q⟩) A
 |_=> .fail
def Ev(E:au)(A:AW)(fr:Gt)(c:Call):R:=
 Call.rec (motive:=fun _=>au->AW->Gt->R) (fun ce args tys E A fr=>Callee.rec (motive:=fun _=>List Operand->List xN->au->AW->Gt->R)
  (fun f args _ E A fr=>zB E A (ev E fr f) (eY (ev E fr) args)) (fun _ _ _ _ _ _ _=> .fail) (fun b args tys E A fr=>Dw E A b tys (eY (ev E fr) args)) ce args.toList tys.toList E A fr) c E A fr
def Fo(op:Op):au->a0c->AW->Gt->R:=
 Op.rec (motive:=fun _=>au->a0c->AW->Gt->R)
  (fun x E _ A fr=> .val (ev E fr x) A)
  (fun x E _ A fr=> .val (ev E fr x) A)
  (fun c a b E _ A fr=>eO A (Ln (ev E fr c) (ev E fr a) (ev E fr b)))
  (fun t E _ A _=>ez (y9 E A t))
  (fun t x E _ A fr=>ez (zT A t (ev E fr x)))
  (fun t ps E _ A fr=>eO A (K9 E t (eY (fun p=>(p.1,ev E fr p.2)) ps.toList)))
  (fun t len ps E _ A fr=>ez (yx E A t len (eY (fun p=>(p.1,ev E fr p.2)) ps.toList)))
  (fun _ _ _ _ _ _ _ _=> .fail)
  (fun t a E _ A fr=>eO A (Rt E A t (ev E fr a)))
  (fun t a x E _ A fr=>ql (yV E A t (ev E fr a) (ev E fr x)))
  (fun _ _ _ _ _=> .fail)
  (fun _ _ _ _ _=> .fail)
  (fun x E _ A fr=>eO A (Mc (ev E fr x)))
  (fun op t x y _ E sq A fr=>eO A (TO E sq op t (ev E fr x) (ev E fr y)))
  (fun op _ x E _ A fr=>eO A (Cq op (ev E fr x)))
  (fun s d x E _ A fr=>Eu E A s d (ev E fr x))
  (fun _ _ _ _ _ _=> .fail)
  (fun _ _ _ _ _ _=> .fail)
  (fun f p q E _ A fr=>bt2 E A fr f p.toList q.toList)
  (fun _ _ _ _ _ _=> .fail)
  (fun _ _ _ _ _ _=> .fail)
  (fun t l c E _ A fr=>ez (yz E A t (ev E fr l) (ev E fr c)))
  (fun t x lo hi mx E _ A fr=>eO A (KF E A t (ev E fr x) (lo.map (ev E fr)) (hi.map (ev E fr)) (mx.map (ev E fr))))
  (fun t x f E _ A fr=>eO A (JD E t (ev E fr x) f))
  (fun t x f E _ A fr=>eO A (K4 E t (ev E fr x) f))
  (fun t x i E _ A fr=>eO A (JC E t (ev E fr x) (ev E fr i)))
  (fun t x i E _ A fr=>eO A (DZ E t (ev E fr x) (ev E fr i)))
  (fun _ _ _ _ _ _ _ _=> .fail)
  (fun _ _ _ _ _ _ _ _=> .fail)
  (fun _ _ _ _ _ _ _=> .fail)
  (fun _ _ _ _ _ _ _ _=> .fail)
  (fun t x E _ A fr=>ez (DW E A t (ev E fr x)))
  (fun it b E _ A fr=>bs b .fail (IG (Lq E A (ev E fr it))))
  (fun it E _ A fr=>eO A (KW A (ev E fr it)))
  (fun _ _ _ _ _ _ _ _=> .fail)
  (fun x i E _ A fr=>eO A (J1 (ev E fr x) i))
  (fun c E _ A fr=>Ev E A fr c)
  (fun _ _ _ _ _=> .fail)
  (fun _ _ _ _ _=> .fail)
  (fun _ _ _ _ _=> .fail)
  (fun _ _ _ _ _ _=> .fail)
  (fun _ _ _ _ _ _ _=> .fail)
  (fun _ _ _ _ _ _=> .fail) op
theorem KL(op:Op)(E:au)(sq:a0c)(A:AW)(fr:Gt):Fo op E sq A fr=aV E sq A fr op:=by
 cases op with
 |build t ps=>obtain⟨ps⟩:=ps;rfl
 |buildSlice t len ps=>obtain⟨ps⟩:=ps;rfl
 |load t a=>show eO A (Rt E A t (ev E fr a))=_;rw[aO2];rfl
 |binOp op t x y ty=>show eO A (TO E sq op t (ev E fr x) (ev E fr y))=_;rw[bc9];rfl
 |makeFunc f p q=>obtain⟨p⟩:=p;obtain⟨q⟩:=q;cases f<;>rfl
 |next it b=>cases b<;>rfl
 |call c=>
  obtain⟨ce,⟨args⟩,⟨tys⟩⟩:=c;cases ce<;>rfl
 |_=>rfl
section
variable(ok:E.Ok P){sq:a0c}(aR:E.Seq P sq)(inv:Inv w0 E.G β A w)
def Bj(P:Program)(w0:World)(G:GP)(β:af)(A:AW)(w:World)(s:Sem Next)(v:xM)(A':AW):Prop:=
 ∃β' v' w',(s.run P w= .ok (.value v') w'\/(s.run P w= .ok .skip w'/\v'=undef))/\aj β' v v'/\Inv w0 G β' A' w'/\β.grow β' A.next/\A.next<=A'.next
theorem uw{x:a0t}{v:xM}(h:eO A x= .val v A'):x=some v/\A'=A:=by
 unfold eO at h
 grind
theorem lX{x:a0q}{v:xM}(h:ez x= .val v A'):x=some (v,A'):=by
 unfold ez at h
 grind
theorem AS{x:Option AW}{v:xM}(h:ql x= .val v A'):x=some A'/\v=undef:=by
 unfold ql at h
 grind
include inv in
theorem oJ{s:Sem xM}{x:a0t}{v:xM}(h:eO A x= .val v A')(hs:x=some v->∃v',s.run P w= .ok v' w/\aj β v v'):Bj P w0 E.G β A w (do pure (.value (<-s))) v A':=by
 obtain⟨h1,rfl⟩:=uw h;obtain⟨v',hr,hv⟩:=hs h1;exact⟨β,v',w,.inl (by simp[hr]),hv,inv,af.cb _ _,xk _⟩
theorem sV{s:Sem xM}{x:a0q}{v:xM}(h:ez x= .val v A')(hn:x=some (v,A')->A.next<=A'.next)(hs:x=some (v,A')->hY w0 E.G β A (s.run P w) v A'):Bj P w0 E.G β A w (do pure (.value (<-s))) v A':=by
 have h1:=lX h;obtain⟨β',v',w',hr,hv,hi,hg⟩:=hs h1;exact⟨β',v',w',.inl (by simp[hr]),hv,hi,hg,hn h1⟩
theorem J3(hf:bU β n fr a.tmps)(inv:Inv w0 E.G β A w):∀(ps:List (Nat×Operand)),E' β (eY (fun p=>(p.1,ev E fr p.2)) ps) (ps.map fun p=>(p.1,a.eval p.2))
 |[]=>trivial
 |p::ps=>⟨rfl,j7 inv hf p.2,J3 hf inv ps⟩
theorem AQ(hf:bU β n fr a.tmps)(inv:Inv w0 E.G β A w):∀(ps:List Operand),aX β (eY (ev E fr) ps) (ps.map a.eval)
 |[]=>aX.nil β
 |p::ps=>(AQ hf inv ps).cons (j7 inv hf p)
theorem Pr(hf:bU β n fr a.tmps)(inv:Inv w0 E.G β A w)(x:Option Operand):pF β (x.map (ev E fr)) (x.map a.eval):=by
 cases x with
 |none=>trivial
 |some x=>exact j7 inv hf x
theorem aW9{c c' a a' b b' v:xM}(h:Ln c a b=some v)(hc:aj β c c')(ha:aj β a a')(hb:aj β b b')(w:World):∃t,c'= .bool t/\aj β v (if t then a' else b'):=by
 unfold Ln at h;split at h
 ·rename_i t;cases h;cases hc;refine⟨t,rfl,?_⟩;cases t
  ·exact hb
  ·exact ha
 ·cases h
theorem az5{v:xM}(h:y9 E A t=some (v,A')):A.next<=A'.next:=by
 unfold y9 at h;split at h
 ·replace h:=ax h;rcases h with⟨_,h⟩|⟨_,h⟩<;>cases h
  exact Nat.le_succ _
 ·cases h
theorem aI3{x v:xM}(h:zT A t x=some (v,A')):A.next<=A'.next:=by
 unfold zT at h;split at h<;>cases h
 exact Nat.le_succ _
theorem au6{ps:List (Nat×xM)}{v:xM}(h:yx E A t n ps=some (v,A')):A.next<=A'.next:=by
 unfold yx at h;split at h
 ·split at h
  ·replace h:=ax h;rcases h with⟨_,h⟩|⟨_,h⟩
   ·split at h<;>cases h
    exact Nat.le_succ _
   ·cases h
  ·cases h
 ·cases h
theorem au9{l c v:xM}(h:yz E A t l c=some (v,A')):A.next<=A'.next:=by
 unfold yz at h;split at h
 ·split at h
  ·replace h:=ax h;rcases h with⟨_,h⟩|⟨_,h⟩<;>cases h
   exact Nat.le_succ _
  ·cases h
 ·cases h
theorem ax6{a x:xM}(h:yV E A t a x=some A'):A.next<=A'.next:=by
 unfold yV at h;split at h
 ·split at h
  ·replace h:=ax h;rcases h with⟨_,h⟩|⟨_,h⟩<;>cases h
   exact xk _
  ·cases h
 ·cases h
theorem ax4{tx:xN}{s x v:xM}(h:DN E A t tx s x=some (v,A')):A.next<=A'.next:=by
 unfold DN at h;split at h
 ·cases h
 split at h
 ·cases h
 split at h
 ·replace h:=ax h;rcases h with⟨_,h⟩|⟨_,h⟩
  ·grind
  ·replace h:=ax h;rcases h with⟨_,h⟩|⟨_,h⟩<;>cases h
   exact Nat.le_succ _
 ·replace h:=ax h;rcases h with⟨_,h⟩|⟨_,h⟩
  ·grind
  ·replace h:=ax h;rcases h with⟨_,h⟩|⟨_,h⟩
   ·cases h
   ·split at h
    ·replace h:=ax h;rcases h with⟨_,h⟩|⟨_,h⟩
     ·replace h:=ax h;rcases h with⟨_,h⟩|⟨_,h⟩
      ·replace h:=ax h;rcases h with⟨_,h⟩|⟨_,h⟩<;>cases h
       exact xk _
      ·split at h
       ·replace h:=ax h;rcases h with⟨_,h⟩|⟨_,h⟩
        ·replace h:=ax h;rcases h with⟨_,h⟩|⟨_,h⟩
         ·cases h;exact Nat.le_succ _
         ·replace h:=ax h;rcases h with⟨_,h⟩|⟨_,h⟩<;>cases h
          exact Nat.le_succ _
        ·cases h
       ·cases h
     ·cases h
    ·cases h
 ·cases h
include ok aR inv in
theorem Ro(hf:bU β n fr a.tmps){v:xM}(h:aV E sq A fr o.op= .val v A'):Bj P w0 E.G β A w (execOp a.eval o) v A':=by
 obtain⟨dst,op,type,cw,after,guard⟩:=o;have E1:=j7 (a:=a) inv hf;unfold aV at h;simp only at h;split at h
 ·cases h;exact⟨β,_,w,.inl rfl,E1 _,inv,af.cb _ _,xk _⟩
 ·cases h;exact⟨β,_,w,.inl rfl,E1 _,inv,af.cb _ _,xk _⟩
 ·rename_i c x y;obtain⟨h1,rfl⟩:=uw h;obtain⟨t,ht,hv⟩:=aW9 h1 (E1 c) (E1 x) (E1 y) w;exact⟨β,_,w,.inl (by simp[execOp,ht,asBool]),hv,inv,af.cb _ _,xk _⟩
 ·exact sV h az5 (fun e=>aT1 ok inv e)
 ·rename_i t x;exact sV h aI3 (fun e=>bp7 inv e (E1 x))
 ·rename_i t ps;have:=oJ (P:=P) (s:=Instr.build t (Array.map (fun(p:Nat×Operand)=>(p.1,a.eval p.2)) ⟨ps⟩)) inv h (fun e=>by
   have:=Pn ok e (J3 hf inv ps) w
   grind)
  exact this
 ·rename_i t len ps;have:=sV (P:=P) (w:=w) (β:=β) (A:=A) (E:=E) (w0:=w0) (s:=Instr.buildSlice t len (Array.map (fun(p:Nat×Operand)=>(p.1,a.eval p.2)) ⟨ps⟩)) h au6 (fun e=>by
   grind [av8,J3])
  exact this
 ·rename_i t x;exact oJ inv h (fun e=>Yy ok inv e (E1 x))
 ·rename_i t x y;obtain⟨h1,rfl⟩:=AS h;obtain⟨w',hr,hi⟩:=aK8 ok inv h1 (E1 x) (E1 y);exact⟨β,undef,w',.inr ⟨by simp[execOp,hr],rfl⟩,aj.undef,hi,af.cb _ _,ax6 h1⟩
 ·rename_i x;obtain⟨h1,rfl⟩:=uw h;have hx:=E1 x;generalize qu:a.eval x=xv at hx;refine⟨β,xv,w,.inl ?_,?_,inv,af.cb _ _,xk _⟩
  ·unfold Mc at h1;split at h1
   ·rename_i q hq;rw[hq] at hx;cases hx;simp[execOp,qu]
   ·cases h1
  ·unfold Mc at h1
   grind
 ·rename_i Ax t x y ty;have:=oJ (P:=P) (s:=(do eqGuard Ax t x y (a.eval x) (a.eval y);binOp Ax t (a.eval x) (a.eval y))) inv h (fun e=>pZ ok aR e (E1 x) (E1 y) x y w);exact this
 ·rename_i MY t x;exact oJ inv h (fun e=>Le e (E1 x) P w)
 ·rename_i s d x;unfold Eu at h;split at h
  ·rename_i v0 hc;cases h;obtain⟨v',hr,hv⟩:=P8 ok hc (E1 x) w;exact⟨β,v',w,.inl (by simp[execOp,hr]),hv,inv,af.cb _ _,xk _⟩
  ·split at h
   ·rename_i v0 hc;cases h;obtain⟨v',hr,hv⟩:=aU0 ok inv hc (E1 x);exact⟨β,v',w,.inl (by simp[execOp,hr]),hv,inv,af.cb _ _,xk _⟩
   ·cases h
 ·rename_i f p q;cases h;refine⟨β,.func (.func f) (Array.map a.eval ⟨p⟩) (Array.map a.eval ⟨q⟩),w,.inl (by simp[execOp,Instr.makeFunc]),?_,inv,af.cb _ _,xk _⟩
  grind [aj.YK,AQ]
 ·rename_i t x y;exact sV h au9 (fun e=>aw7 ok inv e (E1 x) (E1 y))
 ·rename_i t x lo hi mx;exact oJ inv h (fun e=>aL8 ok inv e (E1 x) (Pr hf inv lo) (Pr hf inv hi) (Pr hf inv mx))
 ·rename_i t x f;exact oJ inv h (fun e=>ax1 ok e (E1 x) w)
 ·rename_i t x f;exact oJ inv h (fun e=>aQ3 ok e (E1 x) w)
 ·rename_i t x i;exact oJ inv h (fun e=>aw8 ok e (E1 x) (E1 i) w)
 ·rename_i t x i;exact oJ inv h (fun e=>Dt ok e (E1 x) (E1 i) w)
 ·rename_i x i;exact oJ inv h (fun e=>aC2 e (E1 x) P w)
 ·rename_i f args _;have bE:=E1 f;unfold zB at h;split at h
  ·rename_i g p q vw;rw[vw] at bE;split at h
   ·cases h
   ·obtain⟨h1,rfl⟩:=uw h;unfold neV at h1;split at h1
    ·rename_i x hx;replace h1:=ax h1;rcases h1 with⟨hb,h1⟩|⟨_,h1⟩
     ·cases h1;obtain⟨x0,rfl,rfl⟩:=Dp hx;generalize qu:a.eval f=gv at bE;cases bE with
      |func _ _ p' _ q' hp hq h1 h2=>
       have ya:p'=[]:=xA hp.symm;have rn:q'=[]:=xA hq.symm;subst ya;subst rn;refine⟨β,a.eval x0,w,.inl ?_,E1 x0,inv,af.cb _ _,xk _⟩;have bq:=ok.ne g (Gz hb) (a.eval x0) w;simp[execOp,resolve,qu,Deferred.ofValue,invoke,bq]
     ·cases h1
    ·cases h1
  ·cases h
  ·cases h
 ·rename_i b args tys;unfold Dw at h;split at h
  ·rename_i t x hv;obtain⟨x0,rfl,rfl⟩:=Dp hv;have:=oJ (P:=P) (s:=Builtin.len_ #[t] type #[a.eval x0]) inv h (fun e=>KR ok e (E1 x0))
   grind [execOp,resolve,invoke,builtin]
  ·rename_i t tx s x hv;obtain⟨s0,x0,rfl,rfl,rfl⟩:=JV hv;have:=sV (P:=P) (w:=w) (β:=β) (A:=A) (E:=E) (w0:=w0) (s:=Builtin.append_ #[t,tx] type #[a.eval s0,a.eval x0]) h ax4 (fun e=>aI6 ok inv e (E1 s0) (E1 x0))
   grind [execOp,resolve,invoke,builtin]
  ·rename_i t x hv;obtain⟨x0,rfl,rfl⟩:=Dp hv;have:=oJ (P:=P) (s:=Builtin.cap_ #[t] type #[a.eval x0]) inv h (fun e=>bp1 ok e (E1 x0))
   grind [execOp,resolve,invoke,builtin]
  ·cases h
 ·rename_i t x;exact sV h ax9 (fun e=>aM5 ok inv e (E1 x))
 ·unfold IG at h;grind
 ·rename_i it;exact oJ inv h (fun e=>aP1 inv e (E1 it))
 ·cases h
def QZ(P:Program)(β:af)(w:World)(s:Sem Next)(args':a0e):eL->Prop
 | .fn f=>s.run P w= .ok (.enter f ⟨args'⟩) w
 | .rd L=>∃l,β L=some l/\s.run P w=(Instr.yield l.b ⟨args'⟩).run P w
include ok inv in
theorem aX5(hf:bU β n fr a.tmps){f:eL}(h:aV E sq A fr o.op= .call f args):
 ∃args',aX β args args'/\QZ P β w (execOp a.eval o) args' f:=by
 obtain⟨dst,op,type,cw,after,guard⟩:=o;have E1:=j7 (a:=a) inv hf;unfold aV at h;simp only at h;split at h
 case h_22=>
  rename_i g as _;have hg:=E1 g;unfold zB at h;split at h
  ·rename_i fid p q vw;split at h
   ·rename_i nm T9 ta ps rt nf nt rs bd nr ou fi el ln me tn pT;cases h;rw[vw] at hg;obtain⟨EU,Bx⟩:=ok.fn fid _ pT;generalize qu:a.eval g=gv at hg;cases hg with
    |func _ _ p' _ q' hp hq h1 h2=>
     refine⟨p'++as.map a.eval++q',?_,?_⟩
     ·rw[mF,mF];exact(aX.append ⟨hp,h1⟩ (AQ hf inv as)).append ⟨hq,h2⟩
     ·have QF: ¬nm= "runtime.NumGoroutine":=by simpa using Bx
      simp[QZ,execOp,resolve,qu,Deferred.ofValue,invoke,callFunc,program,Sem.run,EU,QF]
   ·unfold eO at h;grind
  ·rename_i L vw;cases h;rw[vw] at hg;generalize qu:a.eval g=gv at hg;cases hg with
   |yield _ l hl=>
    refine⟨as.map a.eval,AQ hf inv as,l,hl,?_⟩;simp[execOp,resolve,qu,Deferred.ofValue,invoke]
  ·cases h
 case h_23=>
  unfold Dw at h;split at h
  all_goals first
   |cases h
   |(unfold eO at h;split at h<;>cases h)
   |(unfold ez at h;split at h<;>cases h)
 all_goals first
  |cases h
  |(unfold eO at h;split at h<;>cases h)
  |(unfold ez at h;split at h<;>cases h)
  |(unfold ql at h;split at h<;>cases h)
  |(unfold IG at h;grind)
  |(unfold Eu at h
    split at h
    ·cases h
    ·split at h<;>cases h)
include inv in
theorem bs7(hf:bU β n fr a.tmps){l:List (xM×AW)}(h:aV E sq A fr o.op= .nd l):
 ∃p∈l,Bj P w0 E.G β A w (execOp a.eval o) p.1 p.2:=by
 obtain⟨dst,op,type,cw,after,guard⟩:=o;have E1:=j7 (a:=a) inv hf;unfold aV at h;simp only at h;split at h
 case h_25=>
  rename_i it;unfold IG at h;split at h
  ·rename_i l2 hn;cases h;obtain⟨p,hp,⟨β',v',w',hr,hv,hi,hg⟩,aK⟩:=PM (P:=P) (ty0:=type) inv hn (E1 it);exact⟨p,hp,β',v',w',.inl (by simp[execOp,hr]),hv,hi,hg,aK⟩
  ·cases h
 case h_22=>
  unfold zB at h;split at h
  ·split at h
   ·cases h
   ·unfold eO at h;grind
  ·cases h
  ·cases h
 case h_23=>
  unfold Dw at h;split at h
  all_goals first
   |cases h
   |(unfold eO at h;split at h<;>cases h)
   |(unfold ez at h;split at h<;>cases h)
 all_goals first
  |cases h
  |(unfold eO at h;split at h<;>cases h)
  |(unfold ez at h;split at h<;>cases h)
  |(unfold ql at h;split at h<;>cases h)
  |(unfold Eu at h
    split at h
    ·cases h
    ·split at h<;>cases h)
end
def uO(E:au)(sq:a0c)(A:AW)(fr:Gt)(op:Op):R:=
 match A.tape with
 |[]=> .fail
 |nd::r=>match pz E sq A fr op nd with
  |some v=> .val v (A.pop r)
  |none=> .fail
def orR(r:R):R->R:=R.rec (motive:=fun _=>R->R) (fun s=>s) (fun v A _=> .val v A) (fun f a _=> .call f a) (fun l _=> .nd l) r
def qg(E:au)(sq:a0c)(A:AW)(fr:Gt)(op:Op):R:=
 match op with
 | .call ⟨.builtin .append,⟨[s,x]⟩,⟨[t,tx]⟩⟩=>ez (TQ E A t tx (ev E fr s) (ev E fr x))
 | .store t a x=>ql (A7 E A t (ev E fr a) (ev E fr x))
 | .makeSlice t l c=>ez (Uc E A t (ev E fr l) (ev E fr c))
 | .convert s d x=>ez (QT E A s d (ev E fr x))
 | .call ⟨.builtin .unsafeSliceData,⟨[x]⟩,_⟩=>ez (Qp A (ev E fr x))
 | .call ⟨.builtin .unsafeString,⟨[x,y]⟩,⟨[t,_]⟩⟩=>ez (Q0 E A t (ev E fr x) (ev E fr y))
 | .slice t x lo hi none=>ez (Qj E A t (ev E fr x) (qm E fr lo) (rz E fr hi))
 | .call ⟨.builtin .copy,⟨[d,x]⟩,⟨[t,tx]⟩⟩=>ez (R0 E A t tx (ev E fr d) (ev E fr x))
 | .call ⟨.value f,⟨[x]⟩,_⟩=>ez (Su E A (ev E fr f) (ev E fr x))
 | .makeMap t none=> .val (Bc E sq A t).1 (Bc E sq A t).2
 | .mapUpdate t m k x=>ql (R9 E sq A t (ev E fr m) (ev E fr k) (ev E fr x))
 | .lookup t m k false=>ez (an3 E sq A t (ev E fr m) (ev E fr k))
 | .mapEntry t m k=>ez (as2 E sq A t (ev E fr m) (ev E fr k))
 | .entryStore _ m st x=>ql (as1 E A (ev E fr m) (ev E fr st) (ev E fr x))
 |_=> .fail
def mark(A:AW):Option AW:=
 match A.tape with
 |[]=>none
 |nd::r=>match nd.k with
  | .own 0=>some (A.pop r)
  |_=>none
def bi9(v:xM):Bool:=match v with| .slice none 0 0=>true| .iface _ _=>true|_=>false
def Lp(E:au)(fr:Gt)(op:Op):Bool:=match op with| .call ⟨.builtin .append,⟨[x,_]⟩,_⟩=>bi9 (ev E fr x)| .makeMap _ none=>true|_=>false
def iY(E:au)(sq:a0c)(A:AW)(fr:Gt)(op:Op):R:=
 match bs (Lp E fr op) (mark A) none with
 |some A1=>qg E sq A1 fr op
 |none=>orR (Fo op E sq A fr) (orR (uO E sq A fr op) (qg E sq A fr op))
theorem Gh(E:au)(sq:a0c)(A:AW)(fr:Gt)(op:Op):(iY E sq A fr op=aV E sq A fr op/\aV E sq A fr op≠ .fail)\/iY E sq A fr op=uO E sq A fr op\/iY E sq A fr op=qg E sq A fr op\/∃nd r,A.tape=nd::r/\iY E sq A fr op=qg E sq (A.pop r) fr op:=by
 unfold iY;split
 ·rename_i A1 hm;replace hm:mark A=some A1:=(ax hm).elim (fun h=>h.2) (fun h=>by cases h.2);unfold mark at hm
  grind
 ·rw[KL];cases h:aV E sq A fr op with
  |fail=>
   cases h2:uO E sq A fr op with
   |fail=>exact .inr (.inr (.inl rfl))
   |_=>exact .inr (.inl rfl)
  |_=>exact .inl ⟨rfl,a0C⟩
theorem JM{sq:a0c}{r:R}(h:uO E sq A fr op=r)(hr:r≠ .fail):∃nd l v,A.tape=nd::l/\pz E sq A fr op nd=some v/\r= .val v (A.pop l):=by
 grind [uO,absurd,h.symm]
theorem aA0{sq:a0c}{g g':Gt}(h:∀nd,pz E sq A g op nd=pz E sq A g' op nd):uO E sq A g op=uO E sq A g' op:=by
 grind [uO]
theorem JR{sq:a0c}:(∀f args,qg E sq A fr op≠ .call f args)/\∀l,qg E sq A fr op≠ .nd l:=by
 unfold qg;split
 ·unfold ez;grind
 ·unfold ql;grind
 ·unfold ez;grind
 ·unfold ez;grind
 ·unfold ez;grind
 ·unfold ez;grind
 ·unfold ez;grind
 ·unfold ez;grind
 ·unfold ez;grind
 ·grind
 ·unfold ql;grind
 ·unfold ez;grind
 ·unfold ez;grind
 ·unfold ql;grind
 grind
section
variable(ok:E.Ok P){sq:a0c}(aR:E.Seq P sq)(inv:Inv w0 E.G β A w)
include ok aR inv in
theorem Zo(hf:bU β n fr a.tmps){v:xM}(h:qg E sq A fr o.op= .val v A'):Bj P w0 E.G β A w (execOp a.eval o) v A':=by
 obtain⟨dst,op,type,cw,after,guard⟩:=o;have E1:=j7 (a:=a) inv hf;unfold qg at h;simp only at h;split at h
 ·rename_i s x t tx;have h1:=lX h;obtain⟨⟨β',v',w',hr,hv,hi,hg⟩,hn⟩:=bd8 (ty:=type) ok h1 inv (E1 s) (E1 x);exact⟨β',v',w',.inl (by simp[execOp,resolve,invoke,builtin,hr]),hv,hi,hg,hn⟩
 ·rename_i t x y;obtain⟨h1,rfl⟩:=AS h;obtain⟨β',w',hr,hi,hg,hn⟩:=aE1 ok h1 inv (E1 x) (E1 y);exact⟨β',undef,w',.inr ⟨by simp[execOp,hr],rfl⟩,aj.undef,hi,hg,hn⟩
 ·rename_i t x y;have h1:=lX h;obtain⟨⟨β',v',w',hr,hv,hi,hg⟩,hn⟩:=aO1 ok h1 inv (E1 x) (E1 y);exact⟨β',v',w',.inl (by simp[execOp,hr]),hv,hi,hg,hn⟩
 ·rename_i s d x;have h1:=lX h;obtain⟨⟨β',v',w',hr,hv,hi,hg⟩,hn⟩:=aI0 ok h1 inv (E1 x);exact⟨β',v',w',.inl (by simp[execOp,hr]),hv,hi,hg,hn⟩
 ·rename_i x ts;have h1:=lX h;obtain⟨⟨β',v',w',hr,hv,hi,hg⟩,hn⟩:=aE8 (tys:=ts) (ty:=type) ok h1 inv (E1 x);exact⟨β',v',w',.inl (by simp[execOp,resolve,invoke,builtin,hr]),hv,hi,hg,hn⟩
 ·rename_i x y t ti;have h1:=lX h;obtain⟨⟨β',v',w',hr,hv,hi,hg⟩,hn⟩:=aJ5 (it:=ti) (ty:=type) ok h1 inv (E1 x) (E1 y);exact⟨β',v',w',.inl (by simp[execOp,resolve,invoke,builtin,hr]),hv,hi,hg,hn⟩
 ·rename_i t x lo hi;have h1:=lX h;obtain⟨β',v',hr,hv,gx,hg,hn⟩:=aV0 ok hf h1 inv;exact⟨β',v',w,.inl (by simp[execOp,hr]),hv,gx,hg,hn⟩
 ·rename_i d x t tx;have h1:=lX h;obtain⟨⟨β',v',w',hr,hv,hi,hg⟩,hn⟩:=aR1 (ty:=type) ok h1 inv (E1 d) (E1 x);exact⟨β',v',w',.inl (by simp[execOp,resolve,invoke,builtin,hr]),hv,hi,hg,hn⟩
 ·rename_i f x ts;have h1:=lX h;obtain⟨g,hgf,β',v',w',hr,hv,hi,hg,hn⟩:=aY3 ok h1 inv (E1 f) (E1 x);exact⟨β',v',w',.inl (by simp[execOp,resolve,hgf,Deferred.ofValue,invoke,hr]),hv,hi,hg,hn⟩
 ·cases h;rename_i t;obtain⟨β',v',w',hr,hv,hi,hg⟩:=aF4 (P:=P) (E:=E) (sq:=sq) inv t;exact⟨β',v',w',.inl (by simp[execOp,hr]),hv,hi,hg,ay3⟩
 ·rename_i t m k x;obtain⟨h1,rfl⟩:=AS h;obtain⟨w',hr,hi,hn⟩:=aU2 ok aR h1 inv (E1 m) (E1 k) (E1 x);exact⟨β,undef,w',.inr ⟨by simp[execOp,hr],rfl⟩,aj.undef,hi,af.cb _ _,hn⟩
 ·rename_i t m k;have h1:=lX h;obtain⟨⟨β',v',w',hr,hv,hi,hg⟩,hn⟩:=bw9 ok aR h1 inv (E1 m) (E1 k);exact⟨β',v',w',.inl (by simp[execOp,hr]),hv,hi,hg,hn⟩
 ·rename_i t m k;have h1:=lX h;obtain⟨⟨β',v',w',hr,hv,hi,hg⟩,hn⟩:=by9 ok aR h1 inv (E1 m) (E1 k);exact⟨β',v',w',.inl (by simp[execOp,hr]),hv,hi,hg,hn⟩
 ·rename_i t m st x;obtain⟨h1,rfl⟩:=AS h;obtain⟨β',w',hr,hi,hg,hn⟩:=by8 (t:=t) ok h1 inv (E1 m) (E1 st) (E1 x);exact⟨β',undef,w',.inr ⟨by simp[execOp,hr],rfl⟩,aj.undef,hi,hg,hn⟩
 ·cases h
include ok aR inv
theorem bh4(hf:bU β n fr a.tmps){v:xM}(h:iY E sq A fr o.op= .val v A'):Bj P w0 E.G β A w (execOp a.eval o) v A':=by
 rcases Gh E sq A fr o.op with⟨h1,_⟩|h1|h1|⟨nd,r,ht,h1⟩
 ·exact Ro ok aR inv hf (h1.symm.trans h)
 ·obtain⟨nd,l,v2,ht,hv,hr⟩:=JM (h1.symm.trans h) a0C;cases hr;obtain⟨v',aM,gp⟩:=Y' ok aR inv hf hv (ok.q _ _ (inv.dJ nd a0D));exact⟨β,v',w,.inl aM,gp,inv.pop (fun x hx=>a0D),af.cb _ _,xk _⟩
 ·exact Zo ok aR inv hf (h1.symm.trans h)
 ·have:=Zo ok aR (inv.pop (r:=r) (fun x hx=>a0D)) hf (h1.symm.trans h);exact this
omit aR in
theorem aN2(hf:bU β n fr a.tmps){f:eL}(h:iY E sq A fr o.op= .call f args):∃args',aX β args args'/\QZ P β w (execOp a.eval o) args' f:=by
 rcases Gh E sq A fr o.op with⟨h1,_⟩|h1|h1|⟨nd,r,ht,h1⟩
 ·exact aX5 ok inv hf (h1.symm.trans h)
 ·obtain⟨nd,l,v2,ht,hv,hr⟩:=JM (h1.symm.trans h) a0C;cases hr
 ·exact absurd (h1.symm.trans h) (JR.1 _ _)
 ·exact absurd (h1.symm.trans h) (JR.1 _ _)
omit ok aR in
theorem bh5(hf:bU β n fr a.tmps){l:List (xM×AW)}(h:iY E sq A fr o.op= .nd l):∃p∈l,Bj P w0 E.G β A w (execOp a.eval o) p.1 p.2:=by
 rcases Gh E sq A fr o.op with⟨h1,_⟩|h1|h1|⟨nd,r,ht,h1⟩
 ·exact bs7 inv hf (h1.symm.trans h)
 ·obtain⟨nd,l,v2,ht,hv,hr⟩:=JM (h1.symm.trans h) a0C;cases hr
 ·exact absurd (h1.symm.trans h) (JR.2 _)
 ·exact absurd (h1.symm.trans h) (JR.2 _)
end
def T.l4(t:T α):Nat->α->(T α->ρ)->ρ:=
 T.rec (motive:=fun _=>Nat->α->(T α->ρ)->ρ) (fun _ _ k=>k .nil)
  (fun l v r sl sr n x k=>Nat.rec (motive:=fun _=>ρ) (k (.node l x r)) (fun p _=>Nat.rec (motive:=fun _=>ρ) (sl (Nat.div p 2) x (fun l'=>k (.node l' v r))) (fun _ _=>sr (Nat.div p 2) x (fun r'=>k (.node l v r'))) (Nat.mod p 2)) n) t
theorem T.J'(t:T α):∀(n:Nat) (x:α) (k:T α->ρ),t.l4 n x k=k (t.set n x):=by
 induction t with
 |nil=>intro n x k;rfl
 |node l v r hl hr=>
  intro n x k;cases n with
  |zero=>rfl
  |succ p=>
   show Nat.rec (motive:=fun _=>ρ) (l.l4 (p/2) x (fun l'=>k (.node l' v r))) (fun _ _=>r.l4 (p/2) x (fun r'=>k (.node l v r'))) (Nat.mod p 2)=
    k (Nat.rec (motive:=fun _=>T α) (.node (l.set (p/2) x) v r) (fun _ _=> .node l v (r.set (p/2) x)) (Nat.mod p 2))
   rw[hl,hr,mm,mm];split<;>rfl
def D3(n:Nat)(k:Nat->ρ):ρ:=Nat.rec (motive:=fun _=>ρ) (k 0) (fun p _=>k (Nat.succ p)) n
theorem JK(n:Nat)(k:Nat->ρ):D3 n k=k n:=by cases n<;>rfl
def y6(v:xM)(k:xM->ρ):ρ:=
 D7 (ρ:=(xM->ρ)->ρ) (fun b _ k=>bs b (k (.bool true)) (k (.bool false)))
  (fun kd n _ k=>Int.rec (motive:=fun _=>ρ) (fun m=>D3 m (fun m=>k (.int kd (.ofNat m)))) (fun m=>D3 m (fun m=>k (.int kd (.negSucc m)))) n)
  (fun _ v k=>k v) (fun _ v k=>k v) (fun _ _ _ v k=>k v) (fun _ v k=>k v) (fun v k=>k v) v v k
theorem Gj(v:xM)(k:xM->ρ):y6 v k=k v:=by
 cases v with
 |bool b=>cases b<;>rfl
 |int kd n=>
  cases n with
  |ofNat m=>exact JK m (fun m=>k (.int kd (.ofNat m)))
  |negSucc m=>exact JK m (fun m=>k (.int kd (.negSucc m)))
 |_=>rfl
def sT(A:AW)(k:AW->ρ):ρ:=match A with|⟨h,n,tp⟩=>D3 n (fun n=>match h with| .nil=>k ⟨.nil,n,tp⟩| .node a b c=>k ⟨.node a b c,n,tp⟩)
theorem yD(A:AW)(k:AW->ρ):sT A k=k A:=by
 obtain⟨h,n,tp⟩:=A
 grind [sT,JK]
abbrev bp(α:Type):=Option (List (α×AW))
def R2(f:α->Option (List γ))(l:List α):Option (List γ):=
 List.rec (motive:=fun _=>Option (List γ)) (some []) (fun a _ ih=>match f a with|none=>none|some r=>match ih with|none=>none|some q=>some (iU r q)) l
def lG(x:Option (List α))(f:α->Option (List γ)):Option (List γ):=
 match x with
 |none=>none
 |some [a]=>f a
 |some l=>R2 f l
theorem W0{f:α->Option (List γ)}:∀{l:List α} {q:List γ},R2 f l=some q->∀a∈l,∃r,f a=some r/\∀c∈r,c∈q
 |[],_,_,a,ha=>by cases ha
 |b::l,q,h,a,ha=>by
  have h':(match f b with|none=>none|some r=>match R2 f l with|none=>none|some q=>some (iU r q))=some q:=h;clear h;split at h'
  ·cases h'
  ·rename_i r hr;split at h'
   ·cases h'
   ·rename_i q2 pO;cases h';cases ha with
    |head=>grind [mF,List.mem_append_left]
    |tail _ ha=>
     obtain⟨r2,h1,h2⟩:=W0 pO a ha
     grind [mF,List.mem_append_right]
theorem vQ{x:Option (List α)}{f:α->Option (List γ)}{q:List γ}(h:lG x f=some q):∃l,x=some l/\∀a∈l,∃r,f a=some r/\∀c∈r,c∈q:=by
 unfold lG at h;split at h
 ·cases h
 ·grind
 ·rename_i l _;exact⟨l,rfl,W0 h⟩
def qR(n:Nat)(fr:Fr)(dst:Option Tmp)(v:xM)(k:Fr->Option (List γ)):Option (List γ):=
 Option.rec (motive:=fun _=>Nat->Fr->xM->(Fr->Option (List γ))->Option (List γ)) (fun _ fr _ k=>k fr)
  (fun d n fr v k=>Bool.rec (motive:=fun _=>Option (List γ)) none (y6 v (fun v=>fr.l4 d v k)) (Nat.ble (Nat.succ d) n)) dst n fr v k
def p6(ops:a0o)(fr:Gt)(o:Oper):Option Bool:=
 match o.guard with
 |none=>some true
 |some (j,want)=>match dP ops j with
  |some g=>match g.dst with
   |some t=>match fr t with
    | .bool b=>some (bs b want (not want))
    | .chan _=>none
    |_=>some false
   |none=>some false
  |none=>some false
abbrev Iz:=(eL->a0e->AW->bp xM)->Nat->Oper->(Fr->AW->bp Fr)->Fr->AW->bp Fr
def bK8(r:R):Iz:=
 R.rec (motive:=fun _=>Iz)
  (fun _ _ _ _ _ _=>none)
  (fun v A' _ n o ih fr _=>qR n fr o.dst v (fun fr=>sT A' (fun A'=>ih fr A')))
  (fun f args call n o ih fr A=>lG (call f args A) (fun p=>qR n fr o.dst p.1 (fun fr=>ih fr p.2)))
  (fun q _ n o ih fr _=>lG (some q) (fun p=>qR n fr o.dst p.1 (fun fr=>ih fr p.2))) r
def as9(w:Option Bool):R->Iz:=
 Option.rec (motive:=fun _=>R->Iz) (fun _ _ _ _ _ _ _=>none)
  (Bool.rec (motive:=fun _=>R->Iz) (fun _ _ n o ih fr A=>qR n fr o.dst undef (fun fr=>ih fr A)) bK8) w
theorem bd7(w:Option Bool)(r:R)(call:eL->a0e->AW->bp xM)(n:Nat)(o:Oper)(ih:Fr->AW->bp Fr)(fr:Fr)(A:AW):as9 w r call n o ih fr A=match w with
 |none=>none
 |some false=>qR n fr o.dst undef (fun fr=>ih fr A)
 |some true=>match r with
  | .fail=>none
  | .val v A'=>qR n fr o.dst v (fun fr=>sT A' (fun A'=>ih fr A'))
  | .call f args=>lG (call f args A) (fun p=>qR n fr o.dst p.1 (fun fr=>ih fr p.2))
  | .nd q=>lG (some q) (fun p=>qR n fr o.dst p.1 (fun fr=>ih fr p.2)):=by
 cases w with
 |none=>rfl
 |some b=>
  cases b with
  |false=>rfl
  |true=>cases r<;>rfl
section
variable(E:au)(sq:a0c)(call:eL->a0e->AW->bp xM)(n:Nat)
def tz(ops:a0o)(l:a0o):Fr->AW->bp Fr:=
 List.rec (motive:=fun _=>Fr->AW->bp Fr) (fun fr A=>some [(fr,A)])
  (fun o _ ih fr A=>as9 (p6 ops (fr.get J) o) (iY E sq A (fr.get J) o.op) call n o ih fr A) l
def Q7(ms:a0g):AW->Option AW:=
 List.rec (motive:=fun _=>AW->Option AW) (fun A=>some A) (fun D _ ih A=>match A.get D with
  |some ⟨.yo,_,_,_,_⟩=>bs (Nat.ble E.G.n D) (ih (A.put D none)) none
  |_=>none) ms
def ab2(j:Option Code):Vt:=match j with|none=> .ready|some j=> .done j
def KS(j:Vt)(L:Nat)(fr:Fr)(A:AW):bp Fr:=
 match A.get L with
 |some ⟨.loop .busy t m ps a b,es,ex,r,ty⟩=>bs (Nat.ble E.G.n L) (some [(fr,A.put L (some ⟨.loop j t m ps a b,es,ex,r,ty⟩))]) none
 |_=>none
def E4(ro:a0r)(ms:a0g)(fr:Fr)(A:AW):bp Fr:=
 match ro with
 |none=>match Q7 E ms A with
  |some A'=>some [(fr,A')]
  |none=>none
 |some L=>KS E .ready L fr A
def zu(ro:a0r)(j:Code)(fr:Fr)(A:AW):bp Fr:=
 match ro with
 |none=>none
 |some L=>KS E (.done j) L fr A
def Qs(ih:List Nat->List Item->Fr->AW->bp Fr)(ms:a0g)(f:Operand)(ps:a0g)(a b:Code)(k:List Item)(fr:Fr)(A:AW):bp Fr:=
 match zB E A (ev E (fr.get J) f) [.func (.yield (Nat.add A.next 1)) ⟨[]⟩ ⟨[]⟩] with
 | .call (.fn g) args=>bs (Nat.ble E.G.n A.next) (lG (call (.fn g) args ((A.add ⟨.yo,0,true,false,0⟩).add ⟨.loop .ready fr n ps a b,0,true,false,0⟩)) (fun p=>
  match p.2.get (Nat.add A.next 1) with
  |some ⟨.loop .ready _ _ _ _ _,_,_,_,_⟩=>ih (A.next::ms) k fr (p.2.put (Nat.add A.next 1) none)
  |some ⟨.loop (.done j) _ _ _ _ _,_,_,_,_⟩=>ih (A.next::ms) (.code j::k) fr (p.2.put (Nat.add A.next 1) none)
  |_=>none)) none
 |_=>none
def Z7(bO:a0o->Fr->AW->bp Fr)(ro:a0r)(ih:List Nat->List Item->Fr->AW->bp Fr)(ms:a0g)(eR:List Item)(fr:Fr)(A:AW):bp Fr:=
 match eR with
 |[]=>E4 E ro ms fr A
 | .code .ret::_=>match ro with|none=>E4 E none ms fr A|some L=>zu E (some L) .ret fr A
 | .code .skip::k=>ih ms k fr A
 | .code (.label _)::k=>ih ms k fr A
 | .code (.seq a b)::k=>ih ms (.code a:: .code b::k) fr A
 | .code (.cond c x y)::k=>match ev E (fr.get J) c with
  | .bool b=>ih ms (.code (bs b x y)::k) fr A
  |_=>none
 | .code (.block id c)::k=>ih ms (.code c:: .inBlock id::k) fr A
 | .code (.loop c)::k=>ih ms (.code c:: .inLoop c::k) fr A
 | .code (.scope c)::k=>ih ms (.code c:: .inScope c::k) fr A
 | .code (.exit id)::k=>match exitTo id k with|some k'=>ih ms k' fr A|none=>zu E ro (.exit id) fr A
 | .code (.goto l)::k=>match gotoIn l k with|some k'=>ih ms k' fr A|none=>zu E ro (.goto l) fr A
 | .code (.region _ ⟨ops⟩ false)::k=>lG (tz E sq call n ops ops fr A) (fun p=>ih ms k p.1 p.2)
 | .code (.region _ ⟨ops⟩ true)::k=>lG (bO ops fr A) (fun p=>ih ms k p.1 p.2)
 | .code (.rangeFunc f ⟨ps⟩ a b)::k=>match ro with|none=>Qs E call n ih ms f ps a b k fr A|some _=>none
 | .beginRound::k=>match ro with
  |none=>none
  |some L=>match A.get L with
   |some ⟨.loop .ready t m ps a b,es,ex,r,ty⟩=>bs (Nat.ble E.G.n L) (ih ms k fr (A.put L (some ⟨.loop .busy t m ps a b,es,ex,r,ty⟩))) none
   |_=>none
 | .inBlock _::k=>ih ms k fr A
 | .inScope _::k=>ih ms k fr A
 | .inLoop c::k=>ih ms (.code c:: .inLoop c::k) fr A
 |_=>none
abbrev L6:=List Item->au->a0c->(eL->a0e->AW->bp xM)->Nat->(a0o->Fr->AW->bp Fr)->a0r->(List Nat->List Item->Fr->AW->bp Fr)->a0g->Fr->AW->bp Fr
def bp9(E:au)(ro:a0r)(ih:List Nat->List Item->Fr->AW->bp Fr)(ms:a0g)(k:List Item)(fr:Fr)(A:AW):bp Fr:=
 match ro with
  |none=>none
  |some L=>match A.get L with
   |some ⟨.loop .ready t m ps a b,es,ex,r,ty⟩=>bs (Nat.ble E.G.n L) (ih ms k fr (A.put L (some ⟨.loop .busy t m ps a b,es,ex,r,ty⟩))) none
   |_=>none
def bA3(c:Code):L6:=
 Code.rec (motive:=fun _=>L6)
  (fun k _ _ _ _ _ _ ih ms fr A=>ih ms k fr A)
  (fun _ ops dr k E sq call n bO _ ih ms fr A=>bs dr (lG (bO ops.toList fr A) (fun p=>ih ms k p.1 p.2)) (lG (tz E sq call n ops.toList ops.toList fr A) (fun p=>ih ms k p.1 p.2)))
  (fun a b _ _ k _ _ _ _ _ _ ih ms fr A=>ih ms (.code a:: .code b::k) fr A)
  (fun c x y _ _ k E _ _ _ _ _ ih ms fr A=>match ev E (fr.get J) c with| .bool b=>ih ms (.code (bs b x y)::k) fr A|_=>none)
  (fun id c _ k _ _ _ _ _ _ ih ms fr A=>ih ms (.code c:: .inBlock id::k) fr A)
  (fun c _ k _ _ _ _ _ _ ih ms fr A=>ih ms (.code c:: .inLoop c::k) fr A)
  (fun f ps a b _ _ k E _ call n _ ro ih ms fr A=>match ro with|none=>Qs E call n ih ms f ps.toList a b k fr A|some _=>none)
  (fun id k E _ _ _ _ ro ih ms fr A=>match exitTo id k with|some k'=>ih ms k' fr A|none=>zu E ro (.exit id) fr A)
  (fun c _ k _ _ _ _ _ _ ih ms fr A=>ih ms (.code c:: .inScope c::k) fr A)
  (fun _ k _ _ _ _ _ _ ih ms fr A=>ih ms k fr A)
  (fun l k E _ _ _ _ ro ih ms fr A=>match gotoIn l k with|some k'=>ih ms k' fr A|none=>zu E ro (.goto l) fr A)
  (fun _ E _ _ _ _ ro _ ms fr A=>match ro with|none=>E4 E none ms fr A|some L=>zu E (some L) .ret fr A)
  (fun _ _ _ _ _ _ _ _ _ _ _ _=>none) c
def bu3(i:Item):L6:=
 Item.rec (motive:=fun _=>L6)
  (fun c=>bA3 c)
  (fun _ k _ _ _ _ _ _ ih ms fr A=>ih ms k fr A)
  (fun c k _ _ _ _ _ _ ih ms fr A=>ih ms (.code c:: .inLoop c::k) fr A)
  (fun _ k _ _ _ _ _ _ ih ms fr A=>ih ms k fr A)
  (fun _ _ _ _ _ _ _ _ _ _ _ _ _=>none)
  (fun _ _ _ _ _ _ _ _ _ _ _ _=>none)
  (fun _ _ _ _ _ _ _ _ _ _ _ _=>none)
  (fun k E _ _ _ _ ro ih ms fr A=>bp9 E ro ih ms k fr A)
  (fun _ _ _ _ _ _ _ _ _ _ _ _ _ _ _=>none)
  (fun _ _ _ _ _ _ _ _ _ _ _ _ _=>none) i
def Q9(bO:a0o->Fr->AW->bp Fr)(ro:a0r)(ih:List Nat->List Item->Fr->AW->bp Fr)(ms:a0g)(eR:List Item)(fr:Fr)(A:AW):bp Fr:=
 List.rec (motive:=fun _=>au->a0c->(eL->a0e->AW->bp xM)->Nat->(a0o->Fr->AW->bp Fr)->a0r->(List Nat->List Item->Fr->AW->bp Fr)->a0g->Fr->AW->bp Fr)
  (fun E _ _ _ _ ro _ ms fr A=>E4 E ro ms fr A) (fun i k _=>bu3 i k) eR E sq call n bO ro ih ms fr A
theorem aL2(bO:a0o->Fr->AW->bp Fr)(ro:a0r)(ih:List Nat->List Item->Fr->AW->bp Fr)(ms:a0g)(eR:List Item)(fr:Fr)(A:AW):Q9 E sq call n bO ro ih ms eR fr A=Z7 E sq call n bO ro ih ms eR fr A:=by
 cases eR with
 |nil=>rfl
 |cons i k=>
  cases i with
  |code c=>
   cases c with
   |region id ops dr=>obtain⟨ops⟩:=ops;cases dr<;>rfl
   |rangeFunc f ps a b=>obtain⟨ps⟩:=ps;rfl
   |_=>rfl
  |_=>rfl
def wD(bO:a0o->Fr->AW->bp Fr)(ro:a0r)(aU:Nat):List Nat->List Item->Fr->AW->bp Fr:=
 Nat.rec (motive:=fun _=>List Nat->List Item->Fr->AW->bp Fr) (fun _ _ _ _=>none) (fun _ ih=>Q9 E sq call n bO ro ih) aU
end
def L5(l:a0e):Nat->Fr->(Fr->ρ)->ρ:=
 List.rec (motive:=fun _=>Nat->Fr->(Fr->ρ)->ρ) (fun _ fr k=>k fr) (fun v _ ih i fr k=>fr.l4 i v (fun fr=>ih (Nat.add i 1) fr k)) l
def Sk(E:au)(fr:Fr)(A:AW)(l:List ResultVar):Option (List xM):=
 List.rec (motive:=fun _=>Option (List xM)) (some [])
  (fun r _ ih=>match(match r with| .tmp t=>some (fr.get J t)| .cell a t=>zt E A t (fr.get J a)),ih with
   |some v,some vs=>some (v::vs)
   |_,_=>none) l
def HV(E:au)(fr:Fr)(A:AW)(l:List ResultVar):a0t:=
 match Sk E fr A l with
 |some [v]=>some v
 |some vs=>some (.tuple ⟨vs⟩)
 |none=>none
def Lm(ps:a0g):a0e->Fr->(Fr->ρ)->ρ:=
 List.rec (motive:=fun _=>a0e->Fr->(Fr->ρ)->ρ) (fun _ fr k=>k fr) (fun t _ ih args fr k=>match args with
  |[]=>k fr
  |v::vs=>fr.l4 t v (fun fr=>ih vs fr k)) ps
def Qr(L:Nat)(A:AW):bp xM:=
 match A.get L with
 |some ⟨.loop .ready _ _ _ _ _,_,_,_,_⟩=>some [(.bool true,A)]
 |some ⟨.loop (.done _) _ _ _ _ _,_,_,_,_⟩=>some [(.bool false,A)]
 |_=>none
def BK(E:au)(sq:a0c)(bO:(eL->a0e->AW->bp xM)->Nat->List Oper->Fr->AW->bp Fr)(mT:eL->a0e->AW->bp xM)(aU depth:Nat):eL->a0e->AW->bp xM:=
 Nat.rec (motive:=fun _=>eL->a0e->AW->bp xM) (fun _ _ _=>none)
  (fun _ ih t args A=>match mT t args A with
   |some o=>some o
   |none=>match t with
   | .fn f=>match E.fn.get none f with
    |some ⟨_,_,_,_,_,_,nt,⟨rs⟩,some c,_,_,_,_,_,_,_⟩=>
     bs (Nat.ble (bA args) nt) (L5 args 0 (T.full undef (Nat.add (Nat.log2 (Nat.add nt 1)) 1)) (fun fr=>
      lG (wD E sq ih nt (bO ih nt) none aU [] [.code c] fr A) (fun p=>match HV E p.1 p.2 rs with|some v=>some [(v,p.2)]|none=>none))) none
    |_=>none
   | .rd L=>match A.get L with
    |some ⟨.loop .ready fr n ps a b,_,_,_,_⟩=>
     bs (Nat.beq (bA args) (bA ps)&&fq (fun t=>Nat.blt t n) ps) (Lm ps args fr (fun fr=>
      lG (wD E sq ih n (bO ih n) (some L) aU [] [.code a,.beginRound,.code b] fr A) (fun p=>Qr L p.2))) none
    |_=>none) depth
end
end Go.Ex
