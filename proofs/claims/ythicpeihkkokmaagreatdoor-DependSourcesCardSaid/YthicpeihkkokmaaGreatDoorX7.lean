/- A verified evaluator of Go functions. -/
import Derived.Test.YthicpeihkkokmaaGreatDoorX6
import Derived.OrdersIn
import Derived.TacticsIn
import Derived.RangeFuncRecord
import Derived.Orders
set_option linter.unusedVariables false
set_option linter.unusedSimpArgs false
namespace Go.Ex
open Go.RowKit
noncomputable section
section
variable{α:Type}
def alt(l:List α):Bool->List α:=
 List.rec (motive:=fun _=>Bool->List α) (fun _=>[]) (fun a _ ih b=>bs b (a::ih false) (ih true)) l
def z8(k:Nat):List α->T (Option α):=
 Nat.rec (motive:=fun _=>List α->T (Option α)) (fun _=> .nil) (fun _ ih l=>List.rec (motive:=fun _=>T (Option α)) .nil (fun a r _=> .node (ih (alt r true)) (some a) (ih (alt r false))) l) k
theorem DO(l:List α):∀(b:Bool) (m:Nat),(alt l b)[m]? =l[2*m+(if b then 0 else 1)]? :=by
 induction l with
 |nil=>intro b m;simp[alt]
 |cons a l ih=>
  intro b m;cases b with
  |true=>
   show(a::alt l false)[m]? =_;cases m with
   |zero=>simp
   |succ m=>rw[List.getElem?_cons_succ,ih false m,if_pos rfl,Nat.add_zero,show 2*(m+1)=(2*m+1)+1 by omega,List.getElem?_cons_succ];simp
  |false=>
   show(alt l true)[m]? =_;rw[ih true m];simp
theorem Gw:∀(k:Nat) (l:List α) (i:Nat) (x:α),(z8 k l).get none i=some x->l[i]? =some x
 |0,l,i,x,h=>by cases h
 |k+1,[],i,x,h=>by cases h
 |k+1,a::r,i,x,h=>by
  have h':(T.node (z8 k (alt r true)) (some a) (z8 k (alt r false))).get none i=some x:=h;rw[T.kN] at h';split at h'
  ·rename_i h0;subst h0;simpa using h'
  ·split at h'
   ·have:=Gw k _ _ _ h';rw[DO] at this;rw[show i=2*(i/2)+1 by omega,List.getElem?_cons_succ];simpa using this
   ·have:=Gw k _ _ _ h';rw[DO] at this;rw[show i=(2*(i/2 - 1)+1)+1 by omega,List.getElem?_cons_succ];simpa using this
end
def Si(ts:List TypeInfo)(d:TypeDesc):Option TypeDesc:=
 match d with
 | .named _ u=>match dP ts u with|some i=>some i.desc|none=>none
 |d=>some d
def EF(d:TypeDesc)(z:a0t):a0e×Bool:=
 match z with
 |some (.agg ⟨l⟩)=>bs (nq d) (l,true) ([],false)
 |some (.tuple _)=>([],false)
 |some v=>bs (nq d) ([],false) ([v],true)
 |none=>([],false)
def Ll(ts:List TypeInfo)(i:TypeInfo):Option Row:=
 match Si ts i.desc with
 |some d=>some ⟨d,i.size,i.bytes,(EF d i.zero).1,(EF d i.zero).2⟩
 |none=>none
def join(t:T (Option (Option Row))):T (Option Row):=
 T.rec (motive:=fun _=>T (Option Row)) .nil (fun _ v _ l r=> .node l (match v with|some x=>x|none=>none) r) t
def ab1(P:Program)(G:GP)(ne:a0g)(lay:List (Nat×Nat×Nat))(mz:List (Nat×Nat):=[]):au where
 ti:=join (z8 11 (eY (Ll P.types.toList) P.types.toList))
 fn:=z8 10 P.funcs.toList
 ne:=ne
 mz:=mz
 lay:=lay
 G:=G
abbrev kw(ro:a0r):Fence:={Fence.wide with round:=ro}
theorem Ri(ro:a0r)(n:Nat):(kw ro).room n:=fun _ h=>by simp[Fence.wide] at h
theorem ZU{ro:a0r}{n:Nat}{P:Program}{f:FuncId}{args:a0x}{w:World}{R:Ending->World->Prop}(h:Calls P f args w R):CallsIn (kw ro) n P f args w R:=
 (callsIn_wide.2 h:CallsIn Fence.wide n P f args w R)
theorem bg3{ro:a0r}{n:Nat}{P:Program}{l:Nat}{f:FuncId}{tmps:a0x}{a b:Code}{w:World}{R:Ending->World->Prop}(h:RoundIn Fence.wide n P l f tmps a b w R):RoundIn (kw ro) n P l f tmps a b w R:=h
def pw(w0:World)(G:GP)(n:Nat)(β:af)(A:AW)(ds:List Deferred)(bo:List (Fr×AW))(a':Act)(w':World):Prop:=
 ∃p∈bo,∃β',bU β' n (p.1.get J) a'.tmps/\Inv w0 G β' p.2 w'/\β.grow β' A.next/\A.next<=p.2.next/\a'.defers=ds
def R5(w0:World)(G:GP)(β:af)(A:AW)(bo:List (xM×AW))(e:Ending)(w':World):Prop:=
 ∃p∈bo,∃β' v',e= .returned v'/\aj β' p.1 v'/\Inv w0 G β' p.2 w'/\β.grow β' A.next/\A.next<=p.2.next
def lE(P:Program)(E:au)(call:eL->a0e->AW->bp xM):Prop:=
 ∀w0 t args A bo β w args',call t args A=some bo->Inv w0 E.G β A w->aX β args args'->
  match t with
  | .fn f=>Calls P f ⟨args'⟩ w (R5 w0 E.G β A bo)
  | .rd L=>∀l,β L=some l->∃f tmps a b,(Instr.yield l.b ⟨args'⟩).run P w= .ok (.round l.b f tmps a b) w/\RoundIn Fence.wide 0 P l.b f tmps a b w (R5 w0 E.G β A bo)
def uF(P:Program)(E:au)(n:Nat)(bO:a0o->Fr->AW->bp Fr):Prop:=
 ∀ro w0 ops fr A bo β a w id,bO ops fr A=some bo->bU β n (fr.get J) a.tmps->Inv w0 E.G β A w->
  (Code.region id ⟨ops⟩ true).wpIn (kw ro) 0 P (fun e a' w'=>e= .normal/\pw w0 E.G n β A a.defers bo a' w') a w
theorem pw.mono{w0:World}{G:GP}{n:Nat}{β aH:af}{A A1:AW}{ds:List Deferred}{bo Hr:List (Fr×AW)}{a':Act}{w':World}(h:pw w0 G n aH A1 ds Hr a' w')(hg:β.grow aH A.next)(hn:A.next<=A1.next)(SB:∀c∈Hr,c∈bo):pw w0 G n β A ds bo a' w':=by
 obtain⟨p,hp,β',h1,h2,h3,h4,h5⟩:=h;exact⟨p,SB p hp,β',h1,h2,af.iP hg h3 hn,xH hn h4,h5⟩
theorem Gs{ops:a0o}{fr:Gt}{o:Oper}{b:Bool}{β:af}{n:Nat}{a:Act}(h:p6 ops fr o=some b)(hf:bU β n fr a.tmps):Region.wanted o (yielded ⟨ops⟩ a.tmps)=b:=by
 unfold p6 at h;unfold Region.wanted;split at h
 ·grind
 ·rename_i j want hg;rw[hg];simp only;have hy:∀t,((ops[j]?).bind (·.dst))=some t->yielded ⟨ops⟩ a.tmps j=match a.tmps[t]? with|some (.bool b)=>some b|_=>none:=fun t ht=>by
   grind [yielded,bind]
  have hn:((ops[j]?).bind (·.dst))=none->yielded ⟨ops⟩ a.tmps j=none:=fun ht=>by
   grind [yielded,bind]
  rw[fK] at h;split at h
  ·rename_i g hgj;split at h
   ·rename_i t ht;have e:=hy t a0D;rw[e];have hv:=hf.2 t;cases hc:a.tmps[t]? with
    |none=>
     have hd:a.tmps.getD t undef=undef:=by simp[hc]
     rw[hd] at hv;split at h
     ·rename_i hb;rw[hb] at hv;cases hv
     ·cases h
     grind
    |some x=>
     have hd:a.tmps.getD t undef=x:=by simp[hc]
     rw[hd] at hv;split at h
     ·rename_i b0 hb;rw[hb] at hv;cases hv;cases h;cases b0<;>cases want<;>rfl
     ·cases h
     ·rename_i vu hnc;cases h;cases hx:x with
      |bool b0=>
       rw[hx] at hv;generalize fr t=y at*;cases hv with
       |jW=>exact absurd rfl (hnc _)
       |sym=>grind
       |bool=>grind
      |_=>rfl
   grind
  grind
theorem O1{E:au}{sq:a0c}{A:AW}{g:Gt}{o:Oper}{r:R}(h:iY E sq A g o.op=r)(hr:r≠ .fail)(ro:a0r)(ρ:Operand->xM):Oper.semAt ro ρ o=execOp ρ o:=
 Oper.semAt_eq ro ρ o (fun c hc=>hr (by
  rw[<-h,hc];unfold iY;split
  ·rfl
  ·unfold uO;split<;>rfl))
theorem Ox{E:au}{sq:a0c}{A:AW}{g:Gt}{o:Oper}{r:R}(h:aV E sq A g o.op=r)(hr:r≠ .fail)(ro:a0r)(ρ:Operand->xM):Oper.semAt ro ρ o=execOp ρ o:=
 Oper.semAt_eq ro ρ o (fun c hc=>hr (by rw[<-h,hc];rfl))
theorem aE5{E:au}{sq:a0c}{A:AW}{g:Gt}{o:Oper}{nd:Node}{v:xM}(h:pz E sq A g o.op nd=some v)(ro:a0r)(ρ:Operand->xM):Oper.semAt ro ρ o=execOp ρ o:=
 Oper.semAt_eq ro ρ o (fun c hc=>by rw[hc] at h;cases h)
section
variable{P:Program}{E:au}(ok:E.Ok P){sq:a0c}(aR:E.Seq P sq){w0:World}
theorem Kf{γ:Type}{n:Nat}{fr:Fr}{dst:Option Tmp}{v v':xM}{k:Fr->Option (List γ)}{bo:List γ}{β:af}{a:Act}(h:qR n fr dst v k=some bo)(hf:bU β n (fr.get J) a.tmps)(hv:aj β v v'):
 ∃cR,k cR=some bo/\bU β n (cR.get J) (a.put dst v').tmps/\(a.put dst v').defers=a.defers:=by
 cases dst with
 |none=>exact⟨fr,h,hf,rfl⟩
 |some d=>
  have h':Bool.rec (motive:=fun _=>Option (List γ)) none (y6 v (fun v=>fr.l4 d v k)) (Nat.ble (Nat.succ d) n)=some bo:=h;cases hd:Nat.ble (Nat.succ d) n with
  |false=>simp_all
  |true=>
   rw[hd] at h';have h2:y6 v (fun v=>fr.l4 d v k)=some bo:=h';rw[Gj,T.J'] at h2;exact⟨_,h2,hf.put (xh hd) hv,rfl⟩
section
variable{w:World}{β:af}{A:AW}(inv:Inv w0 E.G β A w){n:Nat}{fr:Gt}{a:Act}(hf:bU β n fr a.tmps){o:Oper}{ro:a0r}{K:Act->World->Prop}{Q:Exit->Act->World->Prop}
include ok aR inv hf in
theorem Qc{v:xM}{A':AW}(h:iY E sq A fr o.op= .val v A')(hK:∀β' v' w',aj β' v v'->Inv w0 E.G β' A' w'->β.grow β' A.next->A.next<=A'.next->K (a.put o.dst v') w'):o.wpIn (kw ro) 0 P a w K Q:=by
 obtain⟨β',v',w',aM,hv,bZ,hg,hn⟩:=bh4 ok aR inv hf h;have key:=hK β' v' w' hv bZ hg hn;unfold Oper.wpIn;refine⟨fun _ _=>trivial,?_⟩;rw[O1 h a0C];rcases aM with hr|⟨hr,rfl⟩
 ·rw[hr];exact key
 ·rw[hr];exact key
include ok aR inv hf in
theorem aT6{v:xM}{A':AW}(h:aV E sq A fr o.op= .val v A')(hK:∀β' v' w',aj β' v v'->Inv w0 E.G β' A' w'->β.grow β' A.next->A.next<=A'.next->K (a.put o.dst v') w'):o.wpIn (kw ro) 0 P a w K Q:=by
 obtain⟨β',v',w',aM,hv,bZ,hg,hn⟩:=Ro ok aR inv hf h;unfold Oper.wpIn;refine⟨fun _ _=>trivial,?_⟩;rw[Ox h a0C];rcases aM with h1|⟨h1,rfl⟩
 ·rw[h1];exact hK β' v' w' hv bZ hg hn
 ·rw[h1];exact hK β' undef w' hv bZ hg hn
include inv hf in
theorem bq7{q:List (xM×AW)}(h:iY E sq A fr o.op= .nd q)(hK:∀p∈q,∀β' v' w',aj β' p.1 v'->Inv w0 E.G β' p.2 w'->β.grow β' A.next->A.next<=p.2.next->K (a.put o.dst v') w'):o.wpIn (kw ro) 0 P a w K Q:=by
 obtain⟨p,hp,β',v',w',aM,hv,bZ,hg,hn⟩:=bh5 (P:=P) inv hf h;have key:=hK p hp β' v' w' hv bZ hg hn;unfold Oper.wpIn;refine⟨fun _ _=>trivial,?_⟩;rw[O1 h a0C];rcases aM with hr|⟨hr,rfl⟩
 ·rw[hr];exact key
 ·rw[hr];exact key
include ok inv hf in
theorem XU{call:eL->a0e->AW->bp xM}(hc:lE P E call){t:eL}{args:a0e}{bo:List (xM×AW)}(h:iY E sq A fr o.op= .call t args)(ny:call t args A=some bo)
 (hK:∀p∈bo,∀β' v' w',aj β' p.1 v'->Inv w0 E.G β' p.2 w'->β.grow β' A.next->A.next<=p.2.next->K (a.put o.dst v') w'):o.wpIn (kw ro) 0 P a w K Q:=by
 obtain⟨args',oM,aM⟩:=aN2 ok inv hf h;have vB:=hc w0 t args A bo β w args' ny inv oM;unfold Oper.wpIn;refine⟨fun _ _=>trivial,?_⟩;rw[O1 h a0C];cases t with
 |fn f=>
  have Bu:(execOp a.eval o).run P w= .ok (.enter f ⟨args'⟩) w:=aM;rw[Bu];refine⟨fun h=>by simp[Fence.wide] at h,ZU (Calls.mono vB ?_)⟩;rintro e w' ⟨p,hp,β',v',rfl,hv,bZ,hg,hn⟩
  grind
 |rd L=>
  obtain⟨l,hl,Bu⟩:=aM;obtain⟨f,tmps,x,y,hy,bj3⟩:=vB l hl;rw[Bu,hy];refine⟨fun h=>by simp[Fence.wide] at h,bg3 (RoundIn.mono bj3 ?_)⟩;rintro e w' ⟨p,hp,β',v',rfl,hv,bZ,hg,hn⟩
  grind
end
include ok aR in
theorem A9{call:eL->a0e->AW->bp xM}(hc:lE P E call){n:Nat}{ops:a0o}{ro:a0r}{ds:List Deferred}:∀(l:a0o) (fr:Fr) (A:AW) (bo:List (Fr×AW)) (β:af) (a:Act) (w:World) (Q:Exit->Act->World->Prop),
 tz E sq call n ops l fr A=some bo->bU β n (fr.get J) a.tmps->Inv w0 E.G β A w->a.defers=ds->(∀a' w',pw w0 E.G n β A ds bo a' w'->Q .normal a' w')->wpListIn (kw ro) 0 P ⟨ops⟩ Q l a w
 |[],fr,A,bo,β,a,w,Q,h,hf,inv,hd,hQ=>by
  cases h;exact hQ a w ⟨_,xn,β,hf,inv,af.cb _ _,xk _,hd⟩
 |o::l,fr,A,bo,β,a,w,Q,h,hf,inv,hd,hQ=>by
  have h':(match p6 ops (fr.get J) o with
   |none=>none
   |some false=>qR n fr o.dst undef (fun fr=>tz E sq call n ops l fr A)
   |some true=>match iY E sq A (fr.get J) o.op with
    | .fail=>none
    | .val v A'=>qR n fr o.dst v (fun fr=>sT A' (fun A'=>tz E sq call n ops l fr A'))
    | .call f args=>lG (call f args A) (fun p=>qR n fr o.dst p.1 (fun fr=>tz E sq call n ops l fr p.2))
    | .nd q=>lG (some q) (fun p=>qR n fr o.dst p.1 (fun fr=>tz E sq call n ops l fr p.2)))=some bo:=by
   rw[<-h];exact(bd7 _ _ call n o (tz E sq call n ops l) fr A).symm
  clear h;unfold wpListIn;split at h'
  ·cases h'
  ·rename_i hw;rw[Gs hw hf,if_neg a0C];obtain⟨cR,h1,h2,h3⟩:=Kf h' hf (aj.undef (β:=β));exact⟨fun _ _=>trivial,A9 hc l cR A bo β _ w Q h1 h2 inv (h3.trans hd) hQ⟩
  ·rename_i hw;rw[Gs hw hf,if_pos rfl];split at h'
   ·cases h'
   ·rename_i v A' ek;refine Qc ok aR inv hf ek (fun β' v' w' hv bZ hg hn=> ?_);have aK:=inv.gC hg;obtain⟨cR,h1,h2,h3⟩:=Kf h' (hf.mono aK) hv;rw[yD] at h1;exact A9 hc l cR A' bo β' (a.put o.dst v') w' Q h1 h2 bZ (h3.trans hd) (fun a2 w2 hp=>hQ a2 w2 (hp.mono hg hn (fun _ hc=>hc)))
   ·rename_i f args ek;obtain⟨fx,gg,aW⟩:=vQ h';refine XU ok inv hf hc ek gg (fun p hp β' v' w' hv bZ hg hn=> ?_);obtain⟨r,eB,bu⟩:=aW p hp;have aK:=inv.gC hg;obtain⟨cR,h1,h2,h3⟩:=Kf eB (hf.mono aK) hv;exact A9 hc l cR p.2 r β' (a.put o.dst v') w' Q h1 h2 bZ (h3.trans hd) (fun a2 w2 aO=>hQ a2 w2 (aO.mono hg hn bu))
   ·rename_i q ek;obtain⟨fx,gg,aW⟩:=vQ h';cases gg;refine bq7 inv hf ek (fun p hp β' v' w' hv bZ hg hn=> ?_);obtain⟨r,eB,bu⟩:=aW p hp;have aK:=inv.gC hg;obtain⟨cR,h1,h2,h3⟩:=Kf eB (hf.mono aK) hv;exact A9 hc l cR p.2 r β' (a.put o.dst v') w' Q h1 h2 bZ (h3.trans hd) (fun a2 w2 aO=>hQ a2 w2 (aO.mono hg hn bu))
theorem VU{b:Frame}{a:Act}{k:List Item}{cs:List Frame}{w:World}{c:Code}:step P (lone (b.atR a (.code (.scope c)::k)) cs w)= .next (lone (b.atR a (.code c:: .inScope c::k)) cs w):=
 step_lone_go (by simp[stepG,stepG.exec,Frame.atR])
theorem VA{b:Frame}{a:Act}{k:List Item}{cs:List Frame}{w:World}{c:Code}:step P (lone (b.atR a (.inScope c::k)) cs w)= .next (lone (b.atR a k) cs w):=
 step_lone_go (by simp[stepG,stepG.exec,Frame.atR])
def EA(β:af):List Nat->List Deferred->Prop
 |[],[]=>True
 |D::ms,d::ds=>(∃l,β D=some l/\d.target= .collected l.b)/\EA β ms ds
 |_,_=>False
theorem EA.mono{β β':af}(hb:β.le β'):∀{ms:a0g} {ds:List Deferred},EA β ms ds->EA β' ms ds
 |[],[],_=>trivial
 |_::_,_::_,⟨⟨l,h1,h2⟩,h3⟩=>⟨⟨l,hb.f _ _ h1,h2⟩,h3.mono hb⟩
 |[],_::_,h=>h.elim
 |_::_,[],h=>h.elim
theorem Jo(w:World)(g:Nat)(o:Obj):w.grownBy (w.putObj g o) (some g):=
 ⟨rfl,rfl,rfl,a0C,fun k _ hk=>World.putObj_heap_other (fun e=>hk (by rw[e]))⟩
theorem X3{β:af}:∀(ms:a0g) (ds:List Deferred) (A A':AW) (w:World) (fr:Frame) (cs:List Frame),Q7 E ms A=some A'->EA β ms ds->Inv w0 E.G β A w->fr.mode≠ .run->fr.defers=ds->
 ∃w',Inv w0 E.G β A' w'/\A'.next=A.next/\Steps P (lone fr cs w) (lone {fr with defers:=[]} cs w')
 |[],[],A,A',w,fr,cs,h,_,inv,hm,hd=>by
  cases h;refine⟨w,inv,rfl,?_⟩;rw[<-hd];exact .refl P _
 |D::ms,d::ds,A,A',w,fr,cs,h,⟨⟨l,hl,ht⟩,Ah⟩,inv,hm,hd=>by
  have h':(match A.get D with
   |some ⟨.yo,_,_,_,_⟩=>bs (Nat.ble E.G.n D) (Q7 E ms (A.put D none)) none
   |_=>none)=some A':=h
  clear h;split at h'
  ·rename_i es ex r ty hg;replace h':=ax h';rcases h' with⟨hG,h'⟩|⟨_,h'⟩
   ·have Nn:w.heap[l.b]? =some (.deferred (some [])):=inv.cont D _ l hg hl;have B5:=inv.forget (w':=w.putObj l.b (.deferred none)) D l _ hg hl (xh hG) (Jo w l.b _) a0C;obtain⟨w',h1,h2,h3⟩:=X3 ms ds (A.put D none) A' _ {fr with defers:=[]++ds} cs h' Ah B5 hm rfl;exact⟨w',h1,h2,.head (step_collected hm hd ht (run_takeDeferred Nn)) h3⟩
   ·cases h'
  ·cases h'
 |[],_::_,_,_,_,_,_,_,h,_,_,_=>h.elim
 |_::_,[],_,_,_,_,_,_,h,_,_,_=>h.elim
def zC(β:af)(ro r:a0r):Prop:=match ro,r with|none,none=>True|some L,some l=>∃lb,β L=some lb/\lb.b=l|_,_=>False
theorem zC.mono{β β':af}(hb:β.le β'){ro r:a0r}(h:zC β ro r):zC β' ro r:=by
 unfold zC at*;cases ro<;>cases r<;>first|exact h|exact h.imp fun lb ⟨e1,e2⟩=>⟨hb.f _ _ e1,e2⟩
def MJ(w:World)(r:a0r):xM:=
 match r with
 |some l=>(match w.heap[l]? with|some (.loop rec)=> .bool rec.pending.isNone|_=> .bool true)
 |none=> .bool true
def zV(ro:a0r)(b:Frame)(cs:List Frame)(a:Act)(td:List Item)(w:World):Machine:=
 match ro,cs with
 |some _,c::bC=>lone (c.finish (MJ w b.roundOf)) bC w
 |_,_=>lone {b.atR a td with mode:= .returning} cs w
include ok in
theorem aR8{A:AW}{fv fv' y y':xM}{g:FuncId}{args:a0e}{β:af}{w:World}(h:zB E A fv [y]= .call (.fn g) args)(hv:aj β fv fv')(hy:aj β y y'):
 ∃d args',(Deferred.ofValue fv' #[y']).run P w= .ok d w/\(invoke d.target d.args).run P w= .ok (.enter g ⟨args'⟩) w/\aX β args args':=by
 unfold zB at h;split at h
 ·rename_i fid p q;split at h
  ·rename_i nm T9 ta ps rt nf nt rs bd nr ou fi el ln me tn pT;cases h;obtain⟨EU,Bx⟩:=ok.fn g _ pT;have QF: ¬nm= "runtime.NumGoroutine":=by simpa using Bx
   cases hv with
   |func _ _ p' _ q' hp hq h1 h2=>
    refine⟨{target:= .fn (.func g) ⟨q'⟩,args:=⟨p'⟩++ #[y']},p'++[y']++q',by simp[Deferred.ofValue],?_,?_⟩
    ·simp[invoke,callFunc,program,Sem.run,EU,QF]
    ·rw[mF,mF];exact(aX.append ⟨hp,h1⟩ ((aX.nil β).cons hy)).append ⟨hq,h2⟩
  ·unfold eO at h;grind
 ·cases h
 ·cases h
include ok aR in
theorem DU{call:eL->a0e->AW->bp xM}(hc:lE P E call){n:Nat}{bO:a0o->Fr->AW->bp Fr}(kr:uF P E n bO){ro:a0r}{b:Frame}{cs:List Frame}(cJ:ro.isSome=true->b.kind= .normal/\∃c bC,cs=c::bC):
 ∀(aU:Nat) (ms:a0g) (eR:List Item) (fr:Fr) (A:AW) (bo:List (Fr×AW)) (β:af) (a:Act) (w:World),wD E sq call n bO ro aU ms eR fr A=some bo->bU β n (fr.get J) a.tmps->Inv w0 E.G β A w->EA β ms a.defers->zC β ro b.roundOf->
  ∃a' w' td,pw w0 E.G n β A [] bo a' w'/\Steps P (lone (b.atR a eR) cs w) (zV ro b cs a' td w')
 |0,ms,eR,fr,A,bo,β,a,w,h,hf,inv,Ah,lj=>by cases h
 |aU+1,ms,eR,fr,A,bo,β,a,w,h,hf,inv,Ah,lj=>by
  have h':Q9 E sq call n bO ro (wD E sq call n bO ro aU) ms eR fr A=some bo:=h;clear h;rw[aL2] at h';unfold Z7 at h';have go:∀p7,wD E sq call n bO ro aU ms p7 fr A=some bo->step P (lone (b.atR a eR) cs w)= .next (lone (b.atR a p7) cs w)->
   ∃a' w' td,pw w0 E.G n β A [] bo a' w'/\Steps P (lone (b.atR a eR) cs w) (zV ro b cs a' td w'):=fun p7 h1 h2=>by
   obtain⟨a',w',td,hp,hs⟩:=DU hc kr cJ aU ms p7 fr A bo β a w h1 hf inv Ah lj;exact⟨a',w',td,hp,.head h2 hs⟩
  have region:∀id ops dr k fx,eR= .code (.region id ⟨ops⟩ dr)::k->(Code.region id ⟨ops⟩ dr).wpIn (kw b.roundOf) 0 P (fun e a' w'=>e= .normal/\pw w0 E.G n β A a.defers fx a' w') a w->(∀p∈fx,∃r,wD E sq call n bO ro aU ms k p.1 p.2=some r/\∀c∈r,c∈bo)->
   ∃a' w' td,pw w0 E.G n β A [] bo a' w'/\Steps P (lone (b.atR a eR) cs w) (zV ro b cs a' td w'):=fun id ops dr k fx ht IM fB=>by
   subst ht;obtain⟨e,a1,w1,⟨rfl,p,hp,aH,g1,g2,g3,g4,g5⟩,Ii⟩:=IM b k cs rfl trivial (Ri _ _);obtain⟨r,eB,bu⟩:=fB p hp;have aK:=inv.gC g3;obtain⟨a',w',td,Hw,hs⟩:=DU hc kr cJ aU ms k p.1 p.2 r aH a1 w1 eB g1 g2 (g5▸Ah.mono aK) (lj.mono aK);exact⟨a',w',td,Hw.mono g3 g4 bu,Steps.trans (StepsIn.steps Ii) hs⟩
  have fin:∀td,ro=none->E4 E none ms fr A=some bo->step P (lone (b.atR a eR) cs w)= .next (lone {b.atR a td with mode:= .returning} cs w)->
   ∃a' w' td,pw w0 E.G n β A [] bo a' w'/\Steps P (lone (b.atR a eR) cs w) (zV ro b cs a' td w'):=fun td hrn he bg=>by
   subst hrn;unfold E4 at he;simp only at he;split at he
   ·rename_i A' mW;cases he;obtain⟨w',h1,h2,h3⟩:=X3 (P:=P) (w0:=w0) ms a.defers A A' w {b.atR a td with mode:= .returning} cs mW Ah inv a0C rfl;refine⟨⟨a.tmps,[]⟩,w',td,⟨_,xn,β,hf,h1,af.cb _ _,a0D,rfl⟩,.head bg ?_⟩;exact h3
   ·cases he
  have Ly:∀(j:Option Code) (L:Nat),ro=some L->KS E (ab2 j) L fr A=some bo->
   (∀c bC l v w',cs=c::bC->b.roundOf=some l->b.kind= .normal->(Instr.endRound l j).run P w= .ok v w'->step P (lone (b.atR a eR) cs w)= .next (lone (c.finish v) bC w'))->
   ∃a' w' td,pw w0 E.G n β A [] bo a' w'/\Steps P (lone (b.atR a eR) cs w) (zV ro b cs a' td w'):=fun j L hr h' bg=>by
   rw[hr] at lj;obtain⟨hk,c,bC,I8⟩:=cJ (by rw[hr];rfl);unfold KS at h';cases rC:b.roundOf with
   |none=>rw[rC] at lj;exact lj.elim
   |some l=>
    rw[rC] at lj;obtain⟨lb,lm,SJ⟩:=lj;split at h'
    ·rename_i t m ps x y es ex r ty hg;replace h':=ax h';rcases h' with⟨hG,h'⟩|⟨_,h'⟩
     ·cases h';obtain⟨rec,k1,k2,k3,k4,k5,k6,k7,k8⟩:=inv.cont L _ lb hg lm;subst SJ;have uY:=run_endRound (P:=P) j k1;have B5:=inv.write (w':=w.putObj lb.b (.loop {rec with state:=if j.isNone then .ready else .done,pending:=j})) L lb _ ⟨.loop (ab2 j) t m ps x y,es,ex,r,ty⟩ hg lm (xh hG) (Jo w lb.b _) a0C
       ⟨{rec with state:=if j.isNone then .ready else .done,pending:=j},World.putObj_heap_same (inv.loc L lb lm).1,by cases j<;>rfl,by cases j<;>rfl,k4,k5,k6,k7,k8⟩
      refine⟨⟨a.tmps,[]⟩,_,[],⟨_,xn,β,hf,B5,af.cb _ _,xk _,rfl⟩,.one ?_⟩;rw[bg c bC _ _ _ I8 rC hk uY,hr,I8];have hv:MJ (w.putObj lb.b (.loop {rec with state:=if j.isNone then .ready else .done,pending:=j})) b.roundOf= .bool j.isNone:=by
       rw[rC];unfold MJ;simp only;rw[World.putObj_heap_same (inv.loc L lb lm).1]
      grind [zV]
     ·cases h'
    ·cases h'
  split at h'
  ·cases hr:ro with
   |none=>
    rw[hr] at h';have hb:b.roundOf=none:=by rw[hr] at lj;unfold zC at lj;cases rC:b.roundOf with|none=>rfl|some l=>grind
    grind [stepR_end]
   |some L=>
    rw[hr] at h';rw[<-hr];refine Ly none L hr h' (fun c bC l v w' e1 e2 e3 e4=> ?_)
    grind [stepR_round_end]
  ·rename_i k;split at h'
   ·have hb:b.roundOf=none:=by unfold zC at lj;cases rC:b.roundOf with|none=>rfl|some l=>grind
    exact fin _ rfl h' (stepR_ret hb)
   ·rename_i L;refine Ly (some .ret) L rfl h' (fun c bC l v w' e1 e2 e3 e4=> ?_)
    grind [stepR_round_ret]
  ·exact go _ h' stepR_skip
  ·exact go _ h' stepR_label
  ·exact go _ h' stepR_seq
  ·rename_i c x y k;have hv:=j7 (a:=a) inv hf c;split at h'
   ·rename_i t ht;rw[ht] at hv;generalize yf:a.eval c=cv at hv;cases hv;refine go _ h' ?_;have:=stepR_cond (P:=P) (b:=b) (k:=k) (cs:=cs) (w:=w) (x:=x) (y:=y) yf;rw[this];cases t<;>rfl
   ·cases h'
  ·exact go _ h' stepR_block
  ·exact go _ h' stepR_loop
  ·exact go _ h' VU
  ·split at h'
   ·grind [hk,stepR_exit]
   ·rename_i id k x hx;unfold zu at h';split at h'
    ·cases h'
    ·rename_i L;refine Ly (some (.exit id)) L rfl h' (fun c bC l v w' e1 e2 e3 e4=> ?_)
     grind [stepR_round_exit]
  ·split at h'
   ·grind [hk,stepR_goto]
   ·rename_i id k x hx;unfold zu at h';split at h'
    ·cases h'
    ·rename_i L;refine Ly (some (.goto id)) L rfl h' (fun c bC l v w' e1 e2 e3 e4=> ?_)
     grind [stepR_round_goto]
  ·rename_i id ops k;obtain⟨fx,h1,h2⟩:=vQ h';refine region id ops false k fx rfl ?_ h2;exact wpIn_region_list (A9 ok aR hc ops fr A fx β a w _ h1 hf inv rfl (fun a' w' hp=>⟨rfl,hp⟩))
  ·rename_i id ops k;obtain⟨fx,h1,h2⟩:=vQ h';exact region id ops true k fx rfl (kr _ w0 ops fr A fx β a w id h1 hf inv) h2
  ·
   rename_i f ps x y k;split at h';rotate_left
   ·cases h'
   have hb:b.roundOf=none:=by unfold zC at lj;cases rC:b.roundOf with|none=>rfl|some l=>grind
   unfold Qs at h';split at h';rotate_left
   ·cases h'
   rename_i g args yf;replace h':=ax h';rcases h' with⟨hG,h'⟩|⟨_,h'⟩;rotate_left
   ·cases h'
   have jd:=xh hG;obtain⟨fx,gg,aW⟩:=vQ h';have n1:=inv.new ⟨.yo,0,true,false,0⟩ (.deferred (some [])) ⟨w.heap.size,0,0,0⟩ rfl rfl;have qW:=inv.gC n1.2;have n2:=n1.1.new ⟨.loop .ready fr n ps x y,0,true,false,0⟩ (.loop {state:= .ready,pending:=none,fn:=b.fn,tmps:=a.tmps,params:=⟨ps⟩,assign:=x,body:=y,defers:=w.heap.size}) ⟨(w.alloc (.deferred (some []))).heap.size,0,0,0⟩ rfl
    ⟨_,rfl,rfl,rfl,rfl,rfl,rfl,hf.1,fun t=>((hf.2 t).mono qW).mono (n1.1.gC (af.vT _ _ _))⟩
   have al5:=n1.1.gC n2.2;have CV:(A.add ⟨.yo,0,true,false,0⟩).next=A.next+1:=rfl;rw[CV] at n2;generalize aj0:(af.put (af.put β A.next ⟨w.heap.size,0,0,0⟩) (A.next+1) ⟨(w.alloc (.deferred (some []))).heap.size,0,0,0⟩)=cG at*;have hL:cG (A.next+1)=some ⟨(w.alloc (.deferred (some []))).heap.size,0,0,0⟩:=by rw[<-aj0];exact ju _ _ _
   have hD:cG A.next=some ⟨w.heap.size,0,0,0⟩:=by rw[<-aj0];rw[af.rV,if_neg a0B];exact ju _ _ _
   have al4:β.le cG:=af.le_trans qW a0D;have Mw:β.grow cG A.next:=af.iP n1.2 n2.2 a0B;have aj9:(w.alloc (.deferred (some []))).heap.size=w.heap.size+1:=a0C
   obtain⟨d,args',ly,dY,oM⟩:=aR8 (P:=P) (β:=cG) (w:=(w.alloc (.deferred (some []))).alloc (.loop {state:= .ready,pending:=none,fn:=b.fn,tmps:=a.tmps,params:=⟨ps⟩,assign:=x,body:=y,defers:=w.heap.size})) ok yf ((j7 (a:=a) inv hf f).mono al4) (aj.yield (β:=cG) (A.next+1) _ hL);simp only [aj9] at ly;have ny:=hc w0 (.fn g) args _ fx cG _ args' gg n2.1 oM;have he:(Instr.enterLoop b.fn a.tmps ⟨ps⟩ x y b.roundOf).run P w= .ok (w.heap.size+1,[{target:= .collected w.heap.size,args:= #[]}]) ((w.alloc (.deferred (some []))).alloc (.loop {state:= .ready,pending:=none,fn:=b.fn,tmps:=a.tmps,params:=⟨ps⟩,assign:=x,body:=y,defers:=w.heap.size})):=by
    rw[hb];exact run_enterLoop_outer _ _ _ _ _
   have bg:=stepR_rangeFunc (P:=P) (b:=b) (a:=a) (k:=k) (cs:=cs) (w:=w) (g:=f) (ps:=⟨ps⟩) (assign:=x) (body:=y) (d:=d) he (by simp[resolve];exact ly) dY;obtain⟨e,w3,frX,⟨p,hp,iF,v3,rfl,Uo,B4,If,yc⟩,bj9,pT,bj5⟩:=ny (b.atR {a with defers:=[{target:= .collected w.heap.size,args:= #[]}]++a.defers} (.inRangeFunc (w.heap.size+1)::k)::cs);obtain⟨r,eB,bu⟩:=aW p hp;have U5:((A.add ⟨.yo,0,true,false,0⟩).add ⟨.loop .ready fr n ps x y,0,true,false,0⟩).next=A.next+2:=rfl;rw[U5] at If yc;have Nz:iF (A.next+1)=some ⟨(w.alloc (.deferred (some []))).heap.size,0,0,0⟩:=(If.f _ a0B).trans hL;have hD3:iF A.next=some ⟨w.heap.size,0,0,0⟩:=(If.f _ a0B).trans hD;rw[aj9] at Nz;have bG2:cG.le iF:=n2.1.gC If;have aK:β.le iF:=af.le_trans al4 bG2;have mu:β.grow iF A.next:=af.iP Mw If a0B;have ZW:∀(j:Option Code) (rec:Loop) blk,p.2.get (A.next+1)=some blk->blk.still=false->w3.heap[w.heap.size+1]? =some (.loop rec)->rec.state≠ .busy->rec.pending=j->
    wD E sq call n bO none aU (A.next::ms) ((j.map Item.code).toList++k) fr (p.2.put (A.next+1) none)=some r->
    ∃a' w' td,pw w0 E.G n β A [] bo a' w'/\Steps P (lone (b.atR a (.code (.rangeFunc f ⟨ps⟩ x y)::k)) cs w) (zV none b cs a' td w'):=fun j rec blk sB Ae k1 k2 k3 eB=>by
    have bC4:=B4.forget (w':=w3.putObj (w.heap.size+1) (.loop {rec with state:= .exhausted})) (A.next+1) _ _ sB Nz a0B (Jo w3 _ _) a0C Ae;have bw4:=run_endLoop (P:=P) k1 k2;have uY:(Instr.endLoop (w.heap.size+1)).run P w3= .ok j (w3.putObj (w.heap.size+1) (.loop {rec with state:= .exhausted})):=by
     rw[bw4,k3]
    obtain⟨a',w',td,Hw,hs⟩:=DU hc kr cJ aU (A.next::ms) ((j.map Item.code).toList++k) fr (p.2.put (A.next+1) none) r iF {a with defers:=[{target:= .collected w.heap.size,args:= #[]}]++a.defers} _ eB (hf.mono aK) bC4 ⟨⟨_,hD3,rfl⟩,Ah.mono aK⟩ (lj.mono aK);refine⟨a',w',td,Hw.mono mu (xH a0B yc) bu,.head bg (Steps.trans bj9 (.head ?_ (.head (stepR_endRangeFunc uY) hs)))⟩;rw[<-finish_atR_inRangeFunc (w.heap.size+1) v3];exact step_leave_returned bj5
   split at eB
   ·rename_i sB;obtain⟨rec,k1,k2,k3,k4⟩:=B4.cont (A.next+1) _ _ sB Nz;exact ZW none rec _ sB rfl k1 (by rw[k2];simp) k3 eB
   ·rename_i j3 _ _ _ _ _ _ _ _ _ sB;obtain⟨rec,k1,k2,k3,k4⟩:=B4.cont (A.next+1) _ _ sB Nz;exact ZW (some j3) rec _ sB rfl k1 (by rw[k2];simp) k3 eB
   ·cases eB
  ·
   rename_i k;split at h'
   ·cases h'
   rename_i L;cases rC:b.roundOf with
   |none=>rw[rC] at lj;exact lj.elim
   |some l=>
    have bD6:=lj;rw[rC] at lj;obtain⟨lb,lm,SJ⟩:=lj;split at h'
    ·rename_i t m ps x y es ex r ty hg;replace h':=ax h';rcases h' with⟨hG,h'⟩|⟨_,h'⟩
     ·obtain⟨rec,k1,k2,k3,k4,k5,k6,k7,k8⟩:=inv.cont L _ lb hg lm;subst SJ;have bI3:=run_beginRound (P:=P) k1 k2;have B5:=inv.write (w':=w.putObj lb.b (.loop {rec with state:= .busy})) L lb _ ⟨.loop .busy t m ps x y,es,ex,r,ty⟩ hg lm (xh hG) (Jo w lb.b _) a0C
       ⟨{rec with state:= .busy},World.putObj_heap_same (inv.loc L lb lm).1,rfl,k3,k4,k5,k6,k7,k8⟩
      obtain⟨a',w',td,hp,hs⟩:=DU hc kr cJ aU ms k fr _ bo β a _ h' hf B5 Ah bD6;exact⟨a',w',td,hp,.head (stepR_beginRound rC bI3) hs⟩
     ·cases h'
    ·cases h'
  ·exact go _ h' stepR_inBlock
  ·exact go _ h' VA
  ·exact go _ h' stepR_inLoop
  ·cases h'
theorem Y3{ρ:Type}{n:Nat}{β:af}:∀(l l':a0e) (i:Nat) (fr:Fr) (tmps:a0x) (k:Fr->ρ),aX β l l'->i+l.length<=n->bU β n (fr.get J) tmps->
 ∃cR zd,L5 l i fr k=k cR/\bU β n (cR.get J) zd/\(∀j,zd[j]? =if i<=j/\j<i+l.length then l'[j - i]? else tmps[j]?)
 |[],l',i,fr,tmps,k,hl,hn,hf=>⟨fr,tmps,rfl,hf,fun j=>a0D⟩
 |v::l,l',i,fr,tmps,k,hl,hn,hf=>by
  obtain⟨v',r,rfl,hv,hr⟩:=hl.pc;rw[xi] at hn;obtain⟨cR,zd,h1,h2,h3⟩:=Y3 l r (i+1) (fr.set i v) (tmps.setIfInBounds i v') k hr a0B (hf.put a0B hv);refine⟨cR,zd,?_,h2,fun j=> ?_⟩
  ·show fr.l4 i v (fun fr=>L5 l (i+1) fr k)=_
   grind [T.J']
  ·rw[h3 j,xi];by_cases c1:i+1<=j/\j<i+1+l.length
   ·grind
   ·rw[if_neg c1];by_cases c2:i=j
    ·subst c2;rw[if_pos a0B,Nat.sub_self,List.getElem?_cons_zero];have:i<tmps.size:=by rw[hf.1];omega
     simp[this]
    grind
end
section
variable{P:Program}{E:au}(ok:E.Ok P){sq:a0c}(aR:E.Seq P sq){w0 w:World}
def KI(tmps:a0x)(r:ResultVar):Sem xM:=match r with
 | .tmp t=>pure (tmps.getD t undef)
 | .cell a t=>do loadVar t (<-asAddr (tmps.getD a undef))
include ok in
theorem PB{β:af}{A:AW}(inv:Inv w0 E.G β A w){n:Nat}{fr:Fr}{tmps:a0x}(hf:bU β n (fr.get J) tmps):∀(l:List ResultVar) (vs:a0e),Sk E fr A l=some vs->∃mh,(l.mapM (KI tmps)).run P w= .ok mh w/\aX β vs mh
 |[],vs,h=>by cases h;exact⟨[],a0C,aX.nil β⟩
 |r::l,vs,h=>by
  have h':(match(match r with| .tmp t=>some (fr.get J t)| .cell a t=>zt E A t (fr.get J a)),Sk E fr A l with
   |some v,some vs=>some (v::vs)
   |_,_=>none)=some vs:=h
  clear h;split at h'
  ·rename_i v vs2 hv bI;cases h';obtain⟨mh,h1,h2⟩:=PB inv hf l vs2 bI;have key:∃v',(KI tmps r).run P w= .ok v' w/\aj β v v':=by
    cases r with
    |tmp t=>cases hv;exact⟨_,by simp[KI],hf.2 t⟩
    |cell a t=>
     have dK:zt E A t (fr.get J a)=some v:=hv;have hx:=hf.2 a;obtain⟨v',e1,e2⟩:=Yy ok inv dK hx;unfold zt at dK;split at dK
     ·rename_i B o hq;rw[hq] at hx;generalize jc:tmps.getD a undef=x at*;cases hx with
      |ptr _ _ lc dt=>
       refine⟨v',?_,e2⟩;simp[Instr.loadAt,Instr.sureAddr] at e1;show(do loadVar t (<-asAddr (tmps.getD a undef)):Sem xM).run P w= .ok v' w
       grind [asAddr]
     ·cases dK
   obtain⟨v',e1,e2⟩:=key;exact⟨v'::mh,by simp_all,h2.cons e2⟩
  ·cases h'
include ok in
theorem Zl{β:af}{A:AW}(inv:Inv w0 E.G β A w){n:Nat}{fr:Fr}{tmps:a0x}(hf:bU β n (fr.get J) tmps){fn:Func}{rs:List ResultVar}(hr:fn.results=⟨rs⟩){v:xM}(h:HV E fr A rs=some v):
 ∃v',(results fn tmps).run P w= .ok v' w/\aj β v v':=by
 have mP:results fn tmps=(do let vs<-(⟨rs⟩:Array ResultVar).mapM (KI tmps);pure (if h:vs.size=1 then vs[0] else .tuple vs)):=by
  unfold results;rw[hr];rfl
 unfold HV at h;split at h
 ·rename_i v0 hl;cases h;obtain⟨mh,h1,h2⟩:=PB ok inv hf rs _ hl;obtain⟨v',l',rfl,hv,fj⟩:=h2.pc;have:=fj.qD
  simp_all
 ·rename_i vs bq hl;cases h;obtain⟨mh,h1,h2⟩:=PB ok inv hf rs _ hl;refine⟨.tuple ⟨mh⟩,?_,aj.sK h2⟩;rw[mP];have hn: ¬mh.length=1:=fun e=>by
   rw[<-h2.1] at e;cases vs with
   |nil=>cases e
   |cons x t=>
    simp_all
  simp_all
 ·cases h
theorem Yf{ρ:Type}{n:Nat}{β:af}:∀(ps:a0g) (l l':a0e) (fr:Fr) (tmps:a0x) (k:Fr->ρ),aX β l l'->(∀t∈ps,t<n)->bU β n (fr.get J) tmps->
 ∃cR,Lm ps l fr k=k cR/\bU β n (cR.get J) ((ps.zip l').foldl (fun tmps (p:Nat×xM)=>tmps.setIfInBounds p.1 p.2) tmps)
 |[],l,l',fr,tmps,k,hl,hn,hf=>⟨fr,rfl,by simpa using hf⟩
 |t::ps,[],l',fr,tmps,k,hl,hn,hf=>by rw[hl.qD];exact⟨fr,rfl,by simpa using hf⟩
 |t::ps,v::l,l',fr,tmps,k,hl,hn,hf=>by
  obtain⟨v',r,rfl,hv,hr⟩:=hl.pc;obtain⟨cR,h1,h2⟩:=Yf ps l r (fr.set t v) (tmps.setIfInBounds t v') k hr (fun x hx=>hn x (xo _ hx)) (hf.put (hn t xn) hv);refine⟨cR,?_,by simpa using h2⟩;show fr.l4 t v (fun fr=>Lm ps l fr k)=_
  grind [T.J']
include ok aR in
theorem XK{bO:(eL->a0e->AW->bp xM)->Nat->List Oper->Fr->AW->bp Fr}(kr:∀call n,lE P E call->uF P E n (bO call n)){mT:eL->a0e->AW->bp xM}(vq:lE P E mT)(aU:Nat):∀depth,lE P E (BK E sq bO mT aU depth)
 |0=>fun w0 t args A bo β w args' h=>by cases h
 |depth+1=>fun w0 t args A bo β w args' h inv oM=>by
  have ih:=XK kr vq aU depth;cases hq:mT t args A with
  |some o=>
   have ho:o=bo:=by
    have:(match mT t args A with|some o=>some o|none=>_)=some bo:=h;rw[hq] at this;exact xC this
   subst ho;exact vq w0 t args A o β w args' hq inv oM
  |none=>
  cases t with
  |fn f=>
   have h':(match E.fn.get none f with
    |some ⟨_,_,_,_,_,_,nt,⟨rs⟩,some c,_,_,_,_,_,_,_⟩=>
     bs (Nat.ble (bA args) nt) (L5 args 0 (T.full undef (Nat.add (Nat.log2 (Nat.add nt 1)) 1)) (fun fr=>
      lG (wD E sq (BK E sq bO mT aU depth) nt (bO (BK E sq bO mT aU depth) nt) none aU [] [.code c] fr A) (fun p=>match HV E p.1 p.2 rs with|some v=>some [(v,p.2)]|none=>none))) none
    |_=>none)=some bo:=by
    rw[<-h];show _=(match mT (.fn f) args A with|some o=>some o|none=>_);rw[hq];rfl
   clear h;split at h'
   ·rename_i nm T9 ta ps rt nf nt rs c nr ou fi el ln me tn pT;replace h':=ax h';rcases h' with⟨aK,h'⟩|⟨_,h'⟩
    ·have wM:args.length<=nt:=by have:=xh aK;rw[du] at this;exact this
     obtain⟨EU,_⟩:=ok.fn f _ pT;have aD:=oM.1;have o6:bU β nt (T.get J (T.full undef (Nat.add (Nat.log2 (Nat.add nt 1)) 1))) (Array.replicate nt undef):=by
      refine⟨a0C,fun t=> ?_⟩;have:(Array.replicate nt undef).getD t undef=undef:=by
       by_cases ht:t<nt
       ·simp[ht]
       ·simp[ht]
      rw[this];rcases T.Da undef J (Nat.add (Nat.log2 (Nat.add nt 1)) 1) t with e|e
      ·rw[e];exact aj.undef
      ·rw[e];exact .jW _
     obtain⟨cR,zd,hk,UF,Uu⟩:=Y3 args args' 0 _ _ _ oM a0B o6;rw[hk] at h';have bu6:zd=(⟨args'⟩:a0x)++Array.replicate (nt - args'.length) undef:=by
      apply Array.ext_getElem?;intro j;rw[Uu j];by_cases hj:j<args'.length
      ·grind
      ·grind
     obtain⟨fx,gg,aW⟩:=vQ h';intro cs
     let b:Frame:={(default:Frame) with fn:=f,kind:= .normal,roundOf:=none}
     have QG:Frame.enter P f ⟨args'⟩ .normal=b.atR {tmps:=zd,defers:=[]} [.code c]:=by
      simp[Frame.enter,Frame.atR,EU,b,bu6]
     obtain⟨a',w',td,⟨p,hp,β',g1,g2,g3,g4,g5⟩,Be⟩:=DU (b:=b) (cs:=cs) (ro:=none) ok aR ih (kr _ nt ih) (fun h=>by cases h) aU [] [.code c] cR A fx β {tmps:=zd,defers:=[]} w gg UF inv trivial trivial;obtain⟨r,eB,bu⟩:=aW p hp;split at eB
     ·rename_i v mP;cases eB;obtain⟨v',mq,dK⟩:=Zl (fn:=⟨nm,T9,ta,ps,rt,nf,nt,⟨rs⟩,some c,nr,ou,fi,el,ln,me,tn⟩) ok g2 g1 rfl mP;refine⟨.returned v',w',{b.atR a' td with mode:= .returning},⟨(v,p.2),bu _ xn,β',v',rfl,dK,g2,g3,g4⟩,?_,rfl,rfl,g5,rfl,_,EU,mq⟩;show Steps P (lone (Frame.enter P f ⟨args'⟩ .normal) cs w) _;rw[QG];exact Be
     ·cases eB
    ·cases h'
   ·cases h'
  |rd L=>
   intro l hl;have h':(match A.get L with
    |some ⟨.loop .ready fr n ps a b,_,_,_,_⟩=>
     bs (Nat.beq (bA args) (bA ps)&&fq (fun t=>Nat.blt t n) ps) (Lm ps args fr (fun fr=>
      lG (wD E sq (BK E sq bO mT aU depth) n (bO (BK E sq bO mT aU depth) n) (some L) aU [] [.code a,.beginRound,.code b] fr A) (fun p=>Qr L p.2))) none
    |_=>none)=some bo:=by
    rw[<-h];show _=(match mT (.rd L) args A with|some o=>some o|none=>_);rw[hq];rfl
   clear h;split at h'
   ·rename_i fr n ps x y es ex r ty hg;replace h':=ax h';rcases h' with⟨nR,h'⟩|⟨_,h'⟩
    ·rw[xf] at nR;have aD:args.length=ps.length:=by have:=xb nR.1;rw[du,du] at this;exact this
     have mY:∀t∈ps,t<n:=fun t ht=>xh (pn _ _ nR.2 t ht)
     obtain⟨rec,k1,k2,k3,k4,k5,k6,k7,k8⟩:=inv.cont L _ l hg hl;obtain⟨cR,hk,UF⟩:=Yf ps args args' fr rec.tmps _ oM mY ⟨k7,k8⟩;rw[hk] at h';obtain⟨fx,gg,aW⟩:=vQ h';have aS:(⟨args'⟩:a0x).size=rec.params.size:=by rw[k4];simp[<-oM.1,aD]
     refine⟨rec.fn,_,rec.assign,rec.body,run_yield k1 aS,trivial,fun c cs _=> ?_⟩
     let b:Frame:={(default:Frame) with fn:=rec.fn,kind:= .normal,roundOf:=some l.b}
     have Uu:(rec.params.zip ⟨args'⟩).foldl (fun tmps (p:Nat×xM)=>tmps.setIfInBounds p.1 p.2) rec.tmps=(ps.zip args').foldl (fun tmps (p:Nat×xM)=>tmps.setIfInBounds p.1 p.2) rec.tmps:=by
      rw[k4];simp
     have CR:Frame.round l.b rec.fn ((rec.params.zip ⟨args'⟩).foldl (fun tmps (p:Nat×xM)=>tmps.setIfInBounds p.1 p.2) rec.tmps) rec.assign rec.body .normal=b.atR {tmps:=(ps.zip args').foldl (fun tmps (p:Nat×xM)=>tmps.setIfInBounds p.1 p.2) rec.tmps,defers:=[]} [.code x,.beginRound,.code y]:=by
      rw[Uu,k5,k6];simp[Frame.round,Frame.atR,b]
     obtain⟨a',w',td,⟨p,hp,β',g1,g2,g3,g4,g5⟩,Be⟩:=DU (b:=b) (cs:=c::cs) (ro:=some L) ok aR ih (kr _ n ih) (fun _=>⟨rfl,c,cs,rfl⟩) aU [] [.code x,.beginRound,.code y] cR A fx β {tmps:=(ps.zip args').foldl (fun tmps (p:Nat×xM)=>tmps.setIfInBounds p.1 p.2) rec.tmps,defers:=[]} w gg UF inv trivial ⟨l,hl,rfl⟩;obtain⟨r,eB,bu⟩:=aW p hp;have fj:β' L=some l:=(g3.f L (inv.fI L l hl)).trans hl;obtain⟨v,hv,uY⟩:∃v,r=[(.bool v,p.2)]/\MJ w' b.roundOf= .bool v:=by
      unfold Qr at eB;split at eB
      ·rename_i FH;obtain⟨bB6,e1,_,e3,_⟩:=g2.cont L _ l FH fj;cases eB;exact⟨true,rfl,by show(match w'.heap[l.b]? with|some (.loop rec)=>Value.bool rec.pending.isNone|_=> .bool true)=_;grind⟩
      ·rename_i FH;obtain⟨bB6,e1,_,e3,_⟩:=g2.cont L _ l FH fj;cases eB;exact⟨false,rfl,by show(match w'.heap[l.b]? with|some (.loop rec)=>Value.bool rec.pending.isNone|_=> .bool true)=_;grind⟩
      ·cases eB
     subst hv;refine⟨.returned (.bool v),w',⟨(.bool v,p.2),bu _ xn,β',.bool v,rfl,.bool v,g2,g3,g4⟩,?_⟩;unfold zV at Be;simp only [uY] at Be;refine comesIn_wide.2 ?_;show Steps P (lone (Frame.round l.b rec.fn _ rec.assign rec.body .normal) (c::cs) w) _
     grind
    ·cases h'
   ·cases h'
end
def bit(m i:Nat):Bool:=Nat.beq (Nat.mod (Nat.div m (Nat.pow 2 i)) 2) 1
theorem uE(m i:Nat):bit m i=m.testBit i:=by
 unfold bit;rw[oQ,Nat.testBit_eq_decide_div_mod_eq];rfl
def R8(g:Nat->Nat)(i m:Nat):Nat->Nat:=fun k=>bs (Nat.beq k i) m (g k)
def BU(g:Nat->Nat)(l:List Edge):Nat:=
 List.rec (motive:=fun _=>Nat) 0 (fun e _ s=>bs (Region.binds .any e) (Nat.lor s (Nat.lor (Nat.pow 2 e.on) (g e.on))) s) l
def bfF(ops:a0o):Nat->(Nat->Nat)->(Nat->Nat):=
 List.rec (motive:=fun _=>Nat->(Nat->Nat)->(Nat->Nat)) (fun _ g=>g) (fun o _ ih i g=>ih (Nat.add i 1) (R8 g i (BU g o.after.toList))) ops
def gK(ops:a0o):Nat->Nat:=bfF ops 0 (fun _=>0)
def AA(ops:a0o)(D:Nat->Prop):Prop:=∀j oj,ops[j]? =some oj->D j->∀e∈oj.after.toList,Region.binds .any e=true->D e.on
theorem Xi(D:Nat->Prop)(g:Nat->Nat)(hg:∀k j,(g k).testBit j=true->D k->D j):∀(l:List Edge),(∀e∈l,Region.binds .any e=true->D e.on)->∀j,(BU g l).testBit j=true->D j
 |[],_,j,h=>by rw[show BU g []=0 from rfl,Nat.zero_testBit] at h;cases h
 |e::l,hl,j,h=>by
  have ih:=Xi D g hg l (fun x hx=>hl x (xo _ hx)) j;have h':(bs (Region.binds .any e) (Nat.lor (BU g l) (Nat.lor (Nat.pow 2 e.on) (g e.on))) (BU g l)).testBit j=true:=h;cases hb:Region.binds .any e with
  |false=>grind [ku]
  |true=>
   rw[hb,eQ] at h';have h2:((BU g l)|||(2^e.on|||g e.on)).testBit j=true:=h'
   grind
theorem XM{ops:a0o}{D:Nat->Prop}(hD:AA ops D):∀(l:a0o) (i:Nat) (g:Nat->Nat),(∀k,l[k]? =ops[i+k]?)->(∀k j,(g k).testBit j=true->D k->D j)->∀k j,(bfF l i g k).testBit j=true->D k->D j
 |[],_,_,_,hg=>hg
 |o::l,i,g,hl,hg=>by
  refine XM hD l (i+1) (R8 g i (BU g o.after.toList)) (fun k=> ?_) (fun k j h hk=> ?_)
  ·have:=hl (k+1)
   grind
  ·unfold R8 at h;rw[oQ] at h;by_cases iJ:k=i
   ·rw[decide_eq_true iJ,eQ] at h;subst iJ;have ho:ops[k]? =some o:=by have:=hl 0;simpa using this.symm
    exact Xi D g hg _ (hD k o ho hk) j h
   grind [decide_eq_false,ku,hk]
theorem Ot{ops:a0o}{D:Nat->Prop}(hD:AA ops D){k j:Nat}(h:bit (gK ops k) j=true)(hk:D k):D j:=by
 rw[uE] at h;exact XM hD ops 0 (fun _=>0) (fun k=>a0C) (fun k j h=>a0D) k j h hk
theorem Di{ops:a0o}{D:Nat->Prop}(hD:AA ops D){k j:Nat}{o:Oper}(ho:ops[k]? =some o)(hr:∀e∈o.after.toList,Region.binds .any e=true->D e.on)(h:bit (gK ops k) j=true):D j\/j=k:=by
 have hD':AA ops (fun x=>D x\/x=k):=fun i oi hi hd e he hb=>by
  rcases hd with hd|rfl
  ·exact .inl (hD i oi hi hd e he hb)
  grind
 exact Ot hD' h (.inr rfl)
structure Tr where
 i:Nat
 dst:Option Tmp
 v:xM
def iT(g:Gt)(dst:Option Tmp)(v:xM):Gt:=match dst with|none=>g|some d=>fun t=>bs (Nat.beq t d) v (g t)
theorem Dk(g:Gt)(dst:Option Tmp)(v:xM)(t:Nat):iT g dst v t=if dst=some t then v else g t:=by
 cases dst with
 |none=>rw[if_neg a0C];rfl
 |some d=>
  show bs (Nat.beq t d) v (g t)=_;rw[oQ];by_cases h:t=d
  ·subst h;rw[decide_eq_true rfl,if_pos rfl];rfl
  ·rw[decide_eq_false h,if_neg (fun e=>h (xC e).symm)];rfl
open Classical in
def gv(D:Nat->Prop):List Tr->Gt->Gt
 |[],g0=>g0
 |x::tr,g0=>if D x.i then iT (gv D tr g0) x.dst x.v else gv D tr g0
theorem v5(D:Nat->Prop)(g0:Gt)(t:Nat):∀tr:List Tr,(∃x∈tr,D x.i/\x.dst=some t/\gv D tr g0 t=x.v)\/((∀x∈tr,D x.i->x.dst≠some t)/\gv D tr g0 t=g0 t)
 |[]=> .inr ⟨fun x hx=>(by cases hx),rfl⟩
 |x::tr=>by
  by_cases hD:D x.i
  ·have e:gv D (x::tr) g0 t=iT (gv D tr g0) x.dst x.v t:=by rw[gv,if_pos hD]
   rw[e,Dk];by_cases hd:x.dst=some t
   ·grind
   ·rw[if_neg hd];rcases v5 D g0 t tr with⟨y,hy,a,b,c⟩|⟨a,b⟩
    ·exact .inl ⟨y,xo _ hy,a,b,c⟩
    ·refine .inr ⟨fun y hy NC=> ?_,b⟩;cases hy with
     |head=>exact hd
     |tail _ hy=>exact a y hy NC
  ·have e:gv D (x::tr) g0 t=gv D tr g0 t:=by rw[gv,if_neg hD]
   rw[e];rcases v5 D g0 t tr with⟨y,hy,a,b,c⟩|⟨a,b⟩
   ·exact .inl ⟨y,xo _ hy,a,b,c⟩
   ·refine .inr ⟨fun y hy NC=> ?_,b⟩;cases hy with
    |head=>exact absurd NC hD
    |tail _ hy=>exact a y hy NC
theorem N3(x:Tr)(tr:List Tr)(g0:Gt):gv (fun _=>True) (x::tr) g0=iT (gv (fun _=>True) tr g0) x.dst x.v:=by
 rw[gv,if_pos trivial]
def oa(ops:a0o):List Tr->Prop
 |[]=>True
 |x::tr=>oa ops tr/\(∀y∈tr,y.i≠x.i)/\∃o,ops[x.i]? =some o/\x.dst=o.dst/\∀e∈o.after.toList,Region.binds .any e=true->∃y∈tr,y.i=e.on
theorem oa.qx{ops:a0o}:∀{tr:List Tr},oa ops tr->AA ops (fun j=>∃y∈tr,y.i=j)
 |[],_=>fun j oj _ ⟨y,hy,_⟩=>by cases hy
 |x::tr,⟨h1,h2,o,ho,hd,he⟩=>fun j oj hj ⟨y,hy,hyj⟩ e FI hb=>by
  cases hy with
  |head=>
   grind
  |tail _ hy=>
   obtain⟨z,hz,hzi⟩:=h1.qx j oj hj ⟨y,hy,hyj⟩ e FI hb
   grind
theorem oa.op{ops:a0o}:∀{tr:List Tr},oa ops tr->∀x∈tr,∃o,ops[x.i]? =some o/\x.dst=o.dst
 |[],_,x,hx=>by cases hx
 |y::tr,⟨h1,_,o,ho,hd,_⟩,x,hx=>by
  grind [h1.op]
theorem oa.HO{ops:a0o}:∀{tr:List Tr},oa ops tr->∀x∈tr,∀y∈tr,x.i=y.i->x=y
 |[],_,x,hx,_,_,_=>by cases hx
 |z::tr,⟨h1,h2,_⟩,x,hx,y,hy,e=>by
  grind [absurd,e.symm,h1.HO]
def looks(ops:a0o)(o:Oper)(t:Tmp):Bool:=(o.looksAt ⟨ops⟩).contains t
def Ew(ops:a0o):Prop:=
 (∀(i:Nat) (oi:Oper) (j:Nat) (oj:Oper) (t:Tmp),ops[i]? =some oi->ops[j]? =some oj->t∈oi.looksAt ⟨ops⟩->oj.dst=some t->j=i\/bit (gK ops i) j=true\/bit (gK ops j) i=true)/\
 (∀(i:Nat) (oi:Oper) (j:Nat) (oj:Oper) (t:Tmp),ops[i]? =some oi->ops[j]? =some oj->oi.dst=some t->oj.dst=some t->i=j)
theorem ag4{ops:a0o}(hs:Ew ops){D:Nat->Prop}(hD:AA ops D){i:Nat}{o:Oper}(ho:ops[i]? =some o)(hr:∀e∈o.after.toList,Region.binds .any e=true->D e.on)(yb: ¬D i)
 {tr tl pre:List Tr} {x0:Tr} (Nj:tr=pre++x0::tl) (CA:x0.i=i) (hw:oa ops tr) (hw0:oa ops (x0::tl)) (g0:Gt) {t:Tmp} (ht:t∈o.looksAt ⟨ops⟩):gv D tr g0 t=gv (fun _=>True) tl g0 t:=by
 have sub:∀y∈tl,y∈tr:=fun y hy=>a0D
 have cu7:x0∈tr:=by rw[Nj];exact List.mem_append_right _ xn
 obtain⟨Fx,al0,o',jo,_,bw5⟩:=hw0;rw[CA,ho] at jo;cases jo;have bC6:∀j,bit (gK ops i) j=true->j≠i->∃y∈tl,y.i=j:=fun j hb bq=>
  (Di (Fx.qx) ho bw5 hb).resolve_right bq
 rcases v5 D g0 t tr with⟨x,hx,U1,Nh,hv⟩|⟨jA,hv⟩
 ·obtain⟨ox,Nm,An⟩:=hw.op x hx;have su:x.i≠i:=fun e=>yb (e▸U1)
  rcases hs.1 i o x.i ox t ho Nm ht (An▸Nh) with e|e|e
  ·grind
  ·obtain⟨y,hy,IL⟩:=bC6 x.i e su;have hyx:y=x:=hw.HO y (sub y hy) x hx IL;subst hyx;rcases v5 (fun _=>True) g0 t tl with⟨z,hz,_,hzt,dK⟩|⟨cw2,_⟩
   ·obtain⟨oz,hoz,hdz⟩:=hw.op z (sub z hz);have:=hs.2 z.i oz y.i ox t hoz Nm (hdz▸hzt) (An▸Nh)
    grind [hw.HO]
   grind
  grind [absurd,Ot]
 ·rcases v5 (fun _=>True) g0 t tl with⟨y,hy,_,hyt,_⟩|⟨_,dK⟩
  ·exfalso;obtain⟨oy,Ux,pU⟩:=hw.op y (sub y hy);have IL:y.i≠i:=fun e=>al0 y hy (e.trans CA.symm)
   rcases hs.1 i o y.i oy t ho Ux ht (pU▸hyt) with e|e|e
   ·exact IL e
   ·grind [Di]
   ·
    have hc:=Fx.qx;obtain⟨z,hz,hzi⟩:=Ot hc e ⟨y,hy,rfl⟩
    grind
  grind
theorem Dc{α γ:Type}{f g:α->γ}:∀{l:List α},(∀x∈l,f x=g x)->eY f l=eY g l
 |[],_=>rfl
 |a::l,h=>by
  show f a::eY f l=g a::eY g l;rw[h a xn,Dc (fun x hx=>h x (xo _ hx))]
theorem Wy{E:au}{sq:a0c}{A:AW}{g g':Gt}{op:Op}(h:∀x∈op.operands,ev E g x=ev E g' x):aV E sq A g op=aV E sq A g' op:=by
 cases op
 case move x=>grind [aV,Op.operands]
 case assign x=>grind [aV,Op.operands]
 case pick c a b=>grind [aV,Op.operands]
 case box t x=>grind [aV,Op.operands]
 case build t ps=>
  obtain⟨ps⟩:=ps;simp only [aV];rw[Dc (fun p hp=>by rw[h p.2 (by simp only [Op.operands,List.mem_toArray,xJ];grind)])]
 case buildSlice t n ps=>
  obtain⟨ps⟩:=ps;simp only [aV];rw[Dc (fun p hp=>by rw[h p.2 (by simp only [Op.operands,List.mem_toArray,xJ];grind)])]
 case load t a=>grind [aV,Op.operands]
 case store t a v=>grind [aV,Op.operands]
 case nilCheck x=>grind [aV,Op.operands]
 case binOp o t x y ty=>grind [aV,Op.operands]
 case unOp o t x=>grind [aV,Op.operands]
 case convert s d x=>grind [aV,Op.operands]
 case makeFunc fn p q=>
  obtain⟨p⟩:=p;obtain⟨q⟩:=q;cases fn<;>simp only [aV]
  grind [Dc,Op.operands]
 case makeSlice t l c=>grind [aV,Op.operands]
 case slice t x lo hi mx=>
  simp only [aV];rw[h x (by simp[Op.operands])];have e1:lo.map (ev E g)=lo.map (ev E g'):=by cases lo with|none=>rfl|some y=>exact congrArg some (h y (by simp[Op.operands]))
  have e2:hi.map (ev E g)=hi.map (ev E g'):=by cases hi with|none=>rfl|some y=>exact congrArg some (h y (by simp[Op.operands]))
  have e3:mx.map (ev E g)=mx.map (ev E g'):=by cases mx with|none=>rfl|some y=>exact congrArg some (h y (by simp[Op.operands]))
  grind
 case fieldAddr t x f=>grind [aV,Op.operands]
 case field t x f=>grind [aV,Op.operands]
 case indexAddr t x i=>grind [aV,Op.operands]
 case index t x i=>grind [aV,Op.operands]
 case extract x i=>grind [aV,Op.operands]
 case call c=>
  obtain⟨Hh,⟨args⟩,tys⟩:=c;have oM:∀x∈args,ev E g x=ev E g' x:=fun x hx=>h x (by simp[Op.operands,Call.operands,hx])
  cases Hh with
  |value f=>
   grind [aV,Op.operands,Call.operands,Dc]
  |invoke r m=>simp only [aV]
  |builtin b=>
   obtain⟨tys⟩:=tys
   grind [aV,Dc]
 case makeMap t r=>simp only [aV]
 case lookup t x k b=>grind [aV,Op.operands]
 case mapUpdate t m k x=>grind [aV,Op.operands]
 case insert t m k x=>grind [aV,Op.operands]
 case mapEntry t m k=>grind [aV,Op.operands]
 case entryStore t m k x=>grind [aV,Op.operands]
 case range t x=>grind [aV,Op.operands]
 case next it b=>
  cases b
  ·grind [aV,Op.operands]
  ·simp only [aV]
 case entry it=>grind [aV,Op.operands]
 all_goals simp only [aV]
theorem ay4{E:au}{sq:a0c}{g g':Gt}{op:Op}(h:∀x∈op.operands,ev E g x=ev E g' x):keyOf E sq g op=keyOf E sq g' op:=by
 cases op
 case binOp b t x y ty=>simp only [keyOf];grind [Op.operands]
 case unOp u t x=>grind [keyOf,Op.operands]
 case convert s d x=>simp only [keyOf];grind [Op.operands]
 case index t x i=>simp only [keyOf];grind [Op.operands]
 case indexAddr t x i=>simp only [keyOf];grind [Op.operands]
 case fieldAddr t x f=>simp only [keyOf];grind [Op.operands]
 case load t x=>grind [keyOf,Op.operands]
 case nilCheck x=>grind [keyOf,Op.operands]
 case slice t x lo hi mx=>
  cases mx with
  |some y=>rfl
  |none=>
   simp only [keyOf];have e1:qm E g lo=qm E g' lo:=by cases lo with|none=>rfl|some y=>exact h y (by simp[Op.operands])
   have e2:rz E g hi=rz E g' hi:=by cases hi with|none=>rfl|some y=>exact congrArg (fun v=>[v]) (h y (by simp[Op.operands]))
   grind [Op.operands]
 case call c=>
  obtain⟨Hh,⟨args⟩,⟨tys⟩⟩:=c;cases Hh with
  |builtin b=>
   cases b
   case len=>
    match args,tys with
    |[x],[t]=>simp only [keyOf];grind [Op.operands,Call.operands]
    |[],_=>rfl
    |_::_::_,_=>rfl
    |[_],[]=>rfl
    |[_],_::_::_=>rfl
   case max=>
    grind [keyOf,pj,List.map_congr_left,Op.operands,Call.operands]
   case min=>
    grind [keyOf,pj,List.map_congr_left,Op.operands,Call.operands]
   all_goals rfl
  |_=>rfl
 all_goals rfl
theorem ax5{E:au}{sq:a0c}{g g':Gt}{op:Op}(h:∀x∈op.operands,ev E g x=ev E g' x)(nd:Node):zk E sq g op nd=zk E sq g' op nd:=by
 unfold zk;rw[ay4 h]
theorem aB1{E:au}{A:AW}{g g':Gt}{op:Op}(h:∀x∈op.operands,ev E g x=ev E g' x):zJ E A g op=zJ E A g' op:=by
 unfold zJ;split
 ·grind [Op.operands,Call.operands]
 ·grind [Op.operands]
 ·grind [Op.operands]
 ·grind [Op.operands]
 ·rfl
theorem V'{E:au}{sq:a0c}{A:AW}{g g':Gt}{op:Op}(h:∀x∈op.operands,ev E g x=ev E g' x)(nd:Node):pz E sq A g op nd=pz E sq A g' op nd:=by
 grind [pz,aB1,ax5]
theorem aA5{E:au}{sq:a0c}{A:AW}{g g':Gt}{op:Op}(h:∀x∈op.operands,ev E g x=ev E g' x):qg E sq A g op=qg E sq A g' op:=by
 unfold qg;split
 ·grind [Op.operands,Call.operands]
 ·grind [Op.operands]
 ·grind [Op.operands]
 ·grind [Op.operands]
 ·grind [Op.operands,Call.operands]
 ·grind [Op.operands,Call.operands]
 ·rename_i t x lo hi;have e1:qm E g lo=qm E g' lo:=by cases lo with|none=>rfl|some y=>exact h y (by simp[Op.operands])
  have e2:rz E g hi=rz E g' hi:=by cases hi with|none=>rfl|some y=>exact congrArg (fun v=>[v]) (h y (by simp[Op.operands]))
  grind [Op.operands]
 ·grind [Op.operands,Call.operands]
 ·grind [Op.operands,Call.operands]
 ·rfl
 ·grind [Op.operands]
 ·grind [Op.operands]
 ·grind [Op.operands]
 ·grind [Op.operands]
 ·rfl
theorem ay1{E:au}{g g':Gt}{op:Op}(h:∀x∈op.operands,ev E g x=ev E g' x):Lp E g op=Lp E g' op:=by
 unfold Lp
 grind [Op.operands,Call.operands]
theorem aF1{E:au}{sq:a0c}{A:AW}{g g':Gt}{op:Op}(h:∀x∈op.operands,ev E g x=ev E g' x):iY E sq A g op=iY E sq A g' op:=by
 grind [iY,KL,Wy,aA0,V',aA5,ay1]
theorem aQ4{E:au}{g g':Gt}{x:Operand}(h:∀t,x= .tmp t->g t=g' t):ev E g x=ev E g' x:=by
 cases x with
 |tmp t=>exact h t rfl
 |_=>rfl
def wa(op:Op):Bool:=
 match op with
 | .move _=>true
 | .assign _=>true
 | .pick _ _ _=>true
 | .build _ _=>true
 | .nilCheck _=>true
 | .binOp _ _ _ _ _=>true
 | .unOp _ _ _=>true
 | .makeFunc _ _ _=>true
 | .fieldAddr _ _ _=>true
 | .field _ _ _=>true
 | .indexAddr _ _ _=>true
 | .index _ _ _=>true
 | .extract _ _=>true
 |_=>false
def gQ(E:au)(op:Op):Nat:=
 match op with
 | .load _ _=>0
 | .convert _ d _=>match E.ti.get none d with|some ⟨.slice _,_,_,_,_⟩=>2|_=>0
 | .slice _ _ _ _ _=>0
 | .call ⟨.builtin .len,_,_⟩=>0
 | .call ⟨.builtin .min,_,_⟩=>0
 | .call ⟨.builtin .max,_,_⟩=>0
 | .alloc _=>1
 | .box _ _=>1
 | .buildSlice _ _ _=>1
 | .makeSlice _ _ _=>1
 |op=>bif wa op then 0 else 2
section
variable{P:Program}{E:au}(ok:E.Ok P){sq:a0c}{w0 w:World}{β:af}{A:AW}
theorem Xh{A2:AW}{g:Gt}{op:Op}{v:xM}{A':AW}(hp:wa op=true)(h:aV E sq A g op= .val v A'):A'=A/\aV E sq A2 g op= .val v A2:=by
 cases op<;>try(cases hp;done)
 case makeFunc fn p q=>
  obtain⟨p⟩:=p;obtain⟨q⟩:=q;cases fn<;>simp only [aV] at h⊢<;>cases h
  grind
 case build t ps=>
  obtain⟨ps⟩:=ps;simp only [aV] at h⊢;obtain⟨h1,rfl⟩:=uw h;exact⟨rfl,by rw[h1];rfl⟩
 all_goals
  simp only [aV] at h⊢
  first
  |(cases h;exact⟨rfl,rfl⟩)
  |(obtain⟨h1,rfl⟩:=uw h
    exact⟨rfl,by rw[h1];rfl⟩)
theorem N9{g:Gt}{op:Op}{v:xM}{A':AW}(hk:gQ E op=0)(h:aV E sq A g op= .val v A'):A'=A:=by
 cases hp:wa op with
 |true=>exact(Xh (A2:=A) hp h).1
 |false=>
  cases op<;>simp only [gQ,hp] at hk<;>try(cases hk;done)
  case load t x=>simp only [aV] at h;exact(uw h).2
  case slice t x lo hi mx=>simp only [aV] at h;exact(uw h).2
  case convert s d x=>
   simp only [aV,Eu] at h;split at h
   ·cases h;rfl
   ·split at h
    ·cases h;rfl
    ·cases h
  case call c=>
   obtain⟨Hh,⟨args⟩,⟨tys⟩⟩:=c;cases Hh with
   |value f=>cases hk
   |invoke r m=>cases hk
   |builtin b=>
    simp only [aV,Dw] at h;split at h
    ·exact(uw h).2
    all_goals first
     |(cases hk;done)
     |(cases h;done)
     |exact(uw h).2
include ok in
theorem aQ0{A2:AW}(inv:Inv w0 E.G β A2 w){n:Nat}{g:Gt}{a:Act}(hf:bU β n g a.tmps){o:Oper}{v:xM}{A':AW}(hk:gQ E o.op=1)(h:aV E sq A g o.op= .val v A'):
 ∃cs es bC e v',A'=A.add ⟨.cells cs,es,true,false,e⟩/\(execOp a.eval o).run P w= .ok (.value v') (w.alloc (.cells ⟨bC⟩ e))/\aX β cs bC/\∀β':af,β' A.next=some ⟨w.heap.size,0,es,bC.length⟩->aj β' v v':=by
 obtain⟨dst,op,type,cw,after,guard⟩:=o;have E1:=j7 (a:=a) inv hf;simp only at hk h;cases hp:wa op with
 |true=>cases op<;>simp only [gQ,wa] at hk hp<;>first|(cases hp;done)|(cases hk;done)
 |false=>
  cases op<;>simp only [gQ,hp] at hk<;>try(cases hk;done)
  case convert s d x=>grind
  case alloc t=>
   simp only [aV] at h;obtain⟨cs,es,e,rfl,bC,v',h1,h2,h3⟩:=XP (P:=P) ok (lX h) β w;exact⟨cs,es,bC,e,v',rfl,by simp[execOp,h1],h2,h3⟩
  case box t x=>
   simp only [aV] at h;obtain⟨cs,es,e,rfl,bC,v',h1,h2,h3⟩:=ZV (P:=P) (t:=t) (lX h) (E1 x) w;exact⟨cs,es,bC,e,v',rfl,by simp[execOp,h1],h2,h3⟩
  case buildSlice t len ps=>
   obtain⟨ps⟩:=ps;simp only [aV] at h;obtain⟨cs,es,e,rfl,bC,v',h1,h2,h3⟩:=VF (P:=P) ok (lX h) (J3 hf inv ps) w;refine⟨cs,es,bC,e,v',rfl,?_,h2,h3⟩;have:(Instr.buildSlice t len (Array.map (fun(p:Nat×Operand)=>(p.1,a.eval p.2)) ⟨ps⟩)).run P w= .ok v' (w.alloc (.cells ⟨bC⟩ e)):=by simpa using h1
   show(do pure (Next.value (<-Instr.buildSlice t len (Array.map (fun(p:Nat×Operand)=>(p.1,a.eval p.2)) ⟨ps⟩))):Sem Next).run P w=_
   simp_all
  case makeSlice t x y=>
   simp only [aV] at h;obtain⟨cs,es,e,rfl,bC,v',h1,h2,h3⟩:=VJ (P:=P) ok (lX h) (E1 x) (E1 y) w;exact⟨cs,es,bC,e,v',rfl,by simp[execOp,h1],h2,h3⟩
  grind
theorem Inv.map(h:Inv w0 E.G β A w)(N:Nat)(hN:N<A.next)(hb:β N=none)(o:Obj)(l:Loc)(hl:l.b=w.heap.size)(gp:∀blk,A.get N=some blk->gb (β.put N l) l blk (some o)):
 Inv w0 E.G (β.put N l) A (w.alloc o):=by
 have jJ:∀B lb,β.put N l B=some lb->(B=N/\lb=l)\/(B≠N/\β B=some lb):=fun B lb e=>by
  rw[af.rV] at e
  grind
 have aK:β.le (β.put N l):=⟨fun B lb e=>by
  rw[af.rV]
  grind,fun _ _ h=>h,fun _ _ h=>h,rfl,rfl⟩
 have aS:(w.alloc o).heap.size=w.heap.size+1:=a0C
 refine⟨h.below.alloc o,fun B lb e=> ?_,h.cW,fun B lb e=> ?_,fun B B' lb Cv e e' eE ha lz=> ?_,fun B k lb hk e=> ?_,fun g hg=> ?_,fun b cs hz=>Vz (h.cP b cs hz),fun B lb kb hG e ha hs=> ?_,h.dJ,fun B k hk=>(h.own B k hk).mono aK,h.iB,h.lay,h.xg,h.jP,h.zo,fun b hh hy=> ?_⟩
 ·rcases jJ B lb e with⟨e1,_⟩|⟨_,e⟩
  ·omega
  ·exact h.fI B lb e
 ·rw[aS];rcases jJ B lb e with⟨_,e2⟩|⟨_,e⟩
  ·grind [h.below.size]
  ·exact⟨Nat.lt_succ_of_lt (h.loc B lb e).1,(h.loc B lb e).2⟩
 ·rcases jJ B lb e with⟨h1,h2⟩|⟨hB,f⟩<;>rcases jJ B' Cv e' with⟨oD,FR⟩|⟨vE,f'⟩
  ·rw[h1,oD]
  ·have:=(h.loc B' Cv f').1;grind
  ·have:=(h.loc B lb f).1;grind
  grind [h.inj]
 ·rcases jJ B lb e with⟨h1,h2⟩|⟨hB,f⟩
  ·grind [hk,heap_alloc_new]
  ·rw[Below.heap_alloc w o _ (h.loc B lb f).1];exact(h.cont B k lb hk f).mono aK
 ·grind [h.jk,aK.f]
 ·rcases jJ B lb e with⟨_,h2⟩|⟨hB,f⟩
  ·rw[h2];exact h.Z5 a0B
  ·exact h.sep B lb kb hG f ha hs
 ·obtain⟨y1,y2,y3,y4⟩:=h.dR b hh hy;have bM:=(Array.getElem?_eq_some_iff.1 y1).1;refine⟨by grind [Below.heap_alloc],y2,y3,fun B lb e ha=> ?_⟩
  grind
end
def L4(a b:aE):Bool:=
 match a,b with
 |⟨.cells x,e,ex,ro,ty⟩,⟨.cells y,e',ew,ep,eN⟩=>kS x y&&Nat.beq e e'&&bs ex ew (not ew)&&bs ro ep (not ep)&&Nat.beq ty eN
 |⟨.own x,e,ex,ro,ty⟩,⟨.own y,e',ew,ep,eN⟩=>vg x y&&Nat.beq e e'&&bs ex ew (not ew)&&bs ro ep (not ep)&&Nat.beq ty eN
 |_,_=>false
theorem J2{a b:aE}(h:L4 a b=true):a=b:=by
 unfold L4 at h;split at h
 ·rename_i x e ex ro ty y e' ew ep eN;simp only [xf] at h;rw[mB _ _ h.1.1.1.1,xb h.1.1.1.2,xb h.2];have h1:ex=ew:=by have:=h.1.1.2;cases ex<;>cases ew<;>first|rfl|cases this
  have h2:ro=ep:=by have:=h.1.2;cases ro<;>cases ep<;>first|rfl|cases this
  rw[h1,h2]
 ·rename_i x e ex ro ty y e' ew ep eN;simp only [xf] at h;rw[DQ h.1.1.1.1,xb h.1.1.1.2,xb h.2];have h1:ex=ew:=by have:=h.1.1.2;cases ex<;>cases ew<;>first|rfl|cases this
  have h2:ro=ep:=by have:=h.1.2;cases ro<;>cases ep<;>first|rfl|cases this
  rw[h1,h2]
 ·cases h
structure fZ where
 i:Nat
 o:Oper
 g:Gt
 v:xM
 wanted:Bool
 nb:Option (Nat×aE)
 sy:Option Node
def qQ(E:au)(sq:a0c)(A:AW)(e:fZ):Bool:=
 bs e.wanted (match e.nb with
  |some (N,blk)=>(match A.get N with|none=>true|some b=>L4 b blk)
  |none=>match e.sy with
   |some nd=>(match pz E sq A e.g e.o.op nd with|some v=>vg v e.v|none=>false)
   |none=>bs (wa e.o.op) true (match Fo e.o.op E sq A e.g with| .val v _=>vg v e.v|_=>false)) true
def GZ{ρ:Type}(E:au)(sq:a0c)(call:eL->a0e->AW->bp xM)(ops:a0o)(ih:List fZ->Gt->AW->List Tr->Option ρ)(i:Nat)(aY:List fZ)(g:Gt)(A:AW)(tr:List Tr):Option ρ:=
 match dP ops i with
 |none=>none
 |some o=>match p6 ops g o with
  |none=>none
  |some wd=>
   bs (Nat.ble 2 (gQ E o.op))
    (bs (fq (qQ E sq A) aY)
     (bs wd
      (match iY E sq A g o.op with
      | .val v A'=>y6 v (fun v=>sT A' (fun A'=>ih (jF (fun e=>not (bit (gK ops i) e.i)) aY) (iT g o.dst v) A' (⟨i,o.dst,v⟩::tr)))
      | .call f args=>(match call f args A with
       |some [(v,A')]=>ih (jF (fun e=>not (bit (gK ops i) e.i)) aY) (iT g o.dst v) A' (⟨i,o.dst,v⟩::tr)
       |_=>none)
      | .fail=>none
      | .nd _=>none)
      (ih (jF (fun e=>not (bit (gK ops i) e.i)) aY) (iT g o.dst undef) A (⟨i,o.dst,undef⟩::tr))) none)
    (bs wd
     (match Fo o.op E sq A g with
     | .val v A'=>y6 v (fun v=>sT A' (fun A'=>
      bs (Nat.beq (gQ E o.op) 1)
       (match A'.get A.next with
       |some b=>ih (⟨i,o,g,v,true,some (A.next,b),none⟩::aY) (iT g o.dst v) A' (⟨i,o.dst,v⟩::tr)
       |none=>none)
       (ih (⟨i,o,g,v,true,none,none⟩::aY) (iT g o.dst v) A' (⟨i,o.dst,v⟩::tr))))
     | .fail=>(match A.tape with
      |[]=>none
      |nd::r=>match pz E sq A g o.op nd with
       |some v=>ih (⟨i,o,g,v,true,none,some nd⟩::aY) (iT g o.dst v) (A.pop r) (⟨i,o.dst,v⟩::tr)
       |none=>none)
     |_=>none)
     (ih (⟨i,o,g,undef,false,none,none⟩::aY) (iT g o.dst undef) A (⟨i,o.dst,undef⟩::tr)))
def A8{ρ:Type}(E:au)(sq:a0c)(call:eL->a0e->AW->bp xM)(ops:a0o)(fin:List fZ->Gt->AW->List Tr->Option ρ)(L:a0g):List fZ->Gt->AW->List Tr->Option ρ:=
 List.rec (motive:=fun _=>List fZ->Gt->AW->List Tr->Option ρ) fin (fun i _ ih=>GZ E sq call ops ih i) L
def QL(E:au)(sq:a0c)(aY:List fZ)(_:Gt)(A:AW)(tr:List Tr):Option (List Tr×AW):=bs (fq (qQ E sq A) aY) (some (tr,A)) none
def GW(bL:Nat)(o:Oper):Bool:=fq (fun e=>bs (Region.binds .any e) (bit bL e.on) true) o.after.toList
def Ce(E:au)(ops:a0o)(ih:Nat->Option Nat->Bool)(i bL:Nat)(tB:a0r):Bool:=
 match dP ops i with
 |none=>false
 |some o=>not (bit bL i)&&GW bL o&& (match tB with|none=>true|some e=>bit (gK ops i) e)&&ih (Nat.lor bL (Nat.pow 2 i)) (bs (Nat.ble 2 (gQ E o.op)) (some i) tB)
def wW(E:au)(ops:a0o)(L:a0g):Nat->Option Nat->Bool:=
 List.rec (motive:=fun _=>Nat->Option Nat->Bool) (fun _ _=>true) (fun i _ ih=>Ce E ops ih i) L
def s6{α:Type}(f:Nat->α->Bool)(l:List α):Nat->Bool:=
 List.rec (motive:=fun _=>Nat->Bool) (fun _=>true) (fun a _ ih i=>bs (f i a) (ih (Nat.add i 1)) false) l
theorem Dr{α:Type}(f:Nat->α->Bool):∀(l:List α) (k:Nat),s6 f l k=true->∀i a,l[i]? =some a->f (k+i) a=true
 |[],_,_,i,a,h=>by simp at h
 |b::l,k,h,i,a,hi=>by
  have h':bs (f k b) (s6 f l (k+1)) false=true:=h;cases hb:f k b with
  |false=>rw[hb] at h';cases h'
  |true=>
   rw[hb,eQ] at h';cases i with
   |zero=>simp at hi;subst hi;exact hb
   |succ i=>
    have:=Dr f l (k+1) h' i a (by simpa using hi);rw[show k+(i+1)=k+1+i by omega];exact this
def Ec(ops:a0o)(i:Nat)(oi:Oper)(j:Nat)(oj:Oper):Bool:=
 match oj.dst with
 |none=>true
 |some t=>bs ((oi.looksAt ⟨ops⟩).contains t) (Nat.beq j i||bit (gK ops i) j||bit (gK ops j) i) true&& (match oi.dst with|some t'=>bs (Nat.beq t' t) (Nat.beq i j) true|none=>true)
def bt7{α:Type}(f:α->Bool)(l:List α):Option α:=List.rec (motive:=fun _=>Option α) none (fun a _ ih=>bs (f a) (some a) ih) l
def aa2(E:au)(n:Nat)(ops:a0o)(L:a0g):Bool:=
 wW E ops L 0 none&&s6 (fun i _=>Ft i L) ops 0&&s6 (fun i oi=>s6 (fun j oj=>Ec ops i oi j oj) ops 0) ops 0&&fq (fun o=>match o.dst with|some d=>Nat.blt d n|none=>true) ops&&Region.noSelect ⟨ops⟩
theorem Xc{ops:a0o}(h:s6 (fun i oi=>s6 (fun j oj=>Ec ops i oi j oj) ops 0) ops 0=true):Ew ops:=by
 have key:∀(i:Nat) (oi:Oper) (j:Nat) (oj:Oper),ops[i]? =some oi->ops[j]? =some oj->Ec ops i oi j oj=true:=fun i oi j oj hi hj=>by
  have h1:=Dr _ ops 0 h i oi hi;rw[Nat.zero_add] at h1;have h2:=Dr _ ops 0 h1 j oj hj
  grind
 refine⟨fun i oi j oj t hi hj ht hd=> ?_,fun i oi j oj t hi hj ly dY=> ?_⟩
 ·have hb:=key i oi j oj hi hj;unfold Ec at hb;rw[hd] at hb;simp only [xf] at hb;have hc:(oi.looksAt ⟨ops⟩).contains t=true:=by simpa using ht
  rw[hc,eQ] at hb;simp only [Bool.or_eq_true] at hb
  grind [xb]
 ·have hb:=key i oi j oj hi hj;unfold Ec at hb;rw[dY] at hb;simp only [xf,ly] at hb
  grind [Nat.beq,oQ,eQ,xb]
def aa4(E:au)(ops:a0o)(bL:Nat)(bK5:Bool)(rest:a0g):a0r:=
 bt7 (fun i=>match dP ops i with|some o=>GW bL o&& (not bK5||Nat.blt (gQ E o.op) 2)|none=>false) rest
def bg6(E:au)(ops:a0o)(aU:Nat):Nat->List Nat->List Nat:=
 Nat.rec (motive:=fun _=>Nat->List Nat->List Nat) (fun _ _=>[])
  (fun _ ih bL rest=>match aa4 E ops bL true rest with
   |some i=>i::ih (Nat.lor bL (Nat.pow 2 i)) (jF (fun j=>not (Nat.beq j i)) rest)
   |none=>match aa4 E ops bL false rest with
    |some i=>i::ih (Nat.lor bL (Nat.pow 2 i)) (jF (fun j=>not (Nat.beq j i)) rest)
    |none=>[]) aU
def Kg(E:au)(ops:a0o):a0g:=bg6 E ops (bA ops) 0 (sa (fun i=>i) (bA ops) [])
def Qf(n:Nat)(fr:Fr)(tr:List Tr):Option Fr:=
 List.rec (motive:=fun _=>Option Fr) (some fr) (fun x _ ih=>match ih with
  |none=>none
  |some cR=>match x.dst with
   |none=>some cR
   |some d=>bs (Nat.blt d n) (some (cR.set d x.v)) none) tr
theorem V6{n:Nat}{fr:Fr}:∀(tr:List Tr) (cR:Fr),Qf n fr tr=some cR->∀t,cR.get J t=gv (fun _=>True) tr (fr.get J) t\/cR.get J t=J
 |[],cR,h,t=>by cases h;exact .inl rfl
 |x::tr,cR,h,t=>by
  have h':(match Qf n fr tr with
   |none=>none
   |some cR=>match x.dst with
    |none=>some cR
    |some d=>bs (Nat.blt d n) (some (cR.set d x.v)) none)=some cR:=h
  clear h;rw[N3,Dk];split at h'
  ·cases h'
  ·rename_i f1 CL;have ih:=V6 tr f1 CL t;split at h'
   ·grind
   ·rename_i d hd;replace h':=ax h';rcases h' with⟨_,h'⟩|⟨_,h'⟩
    ·cases h';by_cases vz:d=t
     ·subst vz;rw[if_pos hd];rcases T.ul J f1 d x.v with e|e
      ·exact .inl e
      grind
     ·rw[if_neg a0D,T.um J f1 d t x.v vz];exact ih
    ·cases h'
def T.has{α:Type}(t:T α):Nat->Bool:=
 T.rec (motive:=fun _=>Nat->Bool) (fun _=>false)
  (fun _ _ _ gl gr n=>Nat.rec (motive:=fun _=>Bool) true (fun p _=>Nat.rec (motive:=fun _=>Bool) (gl (Nat.div p 2)) (fun _ _=>gr (Nat.div p 2)) (Nat.mod p 2)) n) t
theorem T.aP7{α:Type}(l r:T α)(v:α)(n:Nat):T.has (.node l v r) n=if n=0 then true else if n%2=1 then l.has (n/2) else r.has (n/2 - 1):=by
 cases n with
 |zero=>rfl
 |succ p=>
  show Nat.rec (motive:=fun _=>Bool) (l.has (p/2)) (fun _ _=>r.has (p/2)) (Nat.mod p 2)=_;rw[mm,if_neg (show ¬p+1=0 by omega)]
  grind
theorem T.N4{α:Type}(d:α):∀(t:T α) (i:Nat) (x:α),t.has i=true->(t.set i x).get d i=x
 | .nil,_,_,h=>by cases h
 | .node l v r,i,x,h=>by
  rw[T.aP7] at h;rw[T.OZ];by_cases h0:i=0
  ·subst h0;rw[if_pos rfl,T.kN,if_pos rfl]
  ·rw[if_neg h0] at h⊢;by_cases h1:i%2=1
   ·rw[if_pos h1] at h⊢;rw[T.kN,if_neg h0,if_pos h1];exact T.N4 d l _ x h
   ·rw[if_neg h1] at h⊢;rw[T.kN,if_neg h0,if_neg h1];exact T.N4 d r _ x h
def uR{ρ:Type}(fr:Fr)(dst:Option Tmp)(v:xM)(k:Fr->Option ρ):Option ρ:=
 Option.rec (motive:=fun _=>Fr->xM->(Fr->Option ρ)->Option ρ) (fun fr _ k=>k fr)
  (fun d fr v k=>Bool.rec (motive:=fun _=>Option ρ) none (fr.l4 d v k) (fr.has d)) dst fr v k
theorem aW5{ρ:Type}{fr:Fr}{dst:Option Tmp}{v:xM}{k:Fr->Option ρ}{res:ρ}(h:uR fr dst v k=some res):∃cR:Fr,k cR=some res/\cR.get J=iT (fr.get J) dst v:=by
 cases dst with
 |none=>exact⟨fr,h,rfl⟩
 |some d=>
  have h':Bool.rec (motive:=fun _=>Option ρ) none (fr.l4 d v k) (fr.has d)=some res:=h;cases hd:fr.has d with
  |false=>simp_all
  |true=>
   rw[hd] at h';have h2:fr.l4 d v k=some res:=h';rw[T.J'] at h2;refine⟨fr.set d v,h2,funext fun t=> ?_⟩;rw[Dk];by_cases ht:d=t
   ·subst ht;rw[if_pos rfl];exact T.N4 J fr d v hd
   ·rw[if_neg (fun e=>ht (xC e))];grind [T.um,J]
def PC{ρ:Type}(E:au)(sq:a0c)(call:eL->a0e->AW->bp xM)(ops:a0o)(ih:List fZ->Fr->AW->List Tr->Option ρ)(i:Nat)(aY:List fZ)(fr:Fr)(A:AW)(tr:List Tr):Option ρ:=
 match dP ops i with
 |none=>none
 |some o=>match p6 ops (fr.get J) o with
  |none=>none
  |some wd=>
   bs (Nat.ble 2 (gQ E o.op))
    (bs (fq (qQ E sq A) aY)
     (bs wd
      (match iY E sq A (fr.get J) o.op with
      | .val v A'=>y6 v (fun v=>sT A' (fun A'=>uR fr o.dst v (fun fr=>ih (jF (fun e=>not (bit (gK ops i) e.i)) aY) fr A' (⟨i,o.dst,v⟩::tr))))
      | .call f args=>(match call f args A with
       |some [(v,A')]=>uR fr o.dst v (fun fr=>ih (jF (fun e=>not (bit (gK ops i) e.i)) aY) fr A' (⟨i,o.dst,v⟩::tr))
       |_=>none)
      | .fail=>none
      | .nd _=>none)
      (uR fr o.dst undef (fun fr=>ih (jF (fun e=>not (bit (gK ops i) e.i)) aY) fr A (⟨i,o.dst,undef⟩::tr)))) none)
    (bs wd
     (match Fo o.op E sq A (fr.get J) with
     | .val v A'=>y6 v (fun v=>sT A' (fun A'=>
      bs (Nat.beq (gQ E o.op) 1)
       (match A'.get A.next with
       |some b=>uR fr o.dst v (fun yk=>ih (⟨i,o,fr.get J,v,true,some (A.next,b),none⟩::aY) yk A' (⟨i,o.dst,v⟩::tr))
       |none=>none)
       (uR fr o.dst v (fun yk=>ih (⟨i,o,fr.get J,v,true,none,none⟩::aY) yk A' (⟨i,o.dst,v⟩::tr)))))
     | .fail=>(match A.tape with
      |[]=>none
      |nd::r=>match pz E sq A (fr.get J) o.op nd with
       |some v=>uR fr o.dst v (fun yk=>ih (⟨i,o,fr.get J,v,true,none,some nd⟩::aY) yk (A.pop r) (⟨i,o.dst,v⟩::tr))
       |none=>none)
     |_=>none)
     (uR fr o.dst undef (fun yk=>ih (⟨i,o,fr.get J,undef,false,none,none⟩::aY) yk A (⟨i,o.dst,undef⟩::tr))))
def GY{ρ:Type}(E:au)(sq:a0c)(call:eL->a0e->AW->bp xM)(ops:a0o)(fin:List fZ->Gt->AW->List Tr->Option ρ)(L:a0g):List fZ->Fr->AW->List Tr->Option ρ:=
 List.rec (motive:=fun _=>List fZ->Fr->AW->List Tr->Option ρ) (fun aY fr A tr=>fin aY (fr.get J) A tr) (fun i _ ih=>PC E sq call ops ih i) L
theorem Oz{ρ:Type}{E:au}{sq:a0c}{call:eL->a0e->AW->bp xM}{ops:a0o}{fin:List fZ->Gt->AW->List Tr->Option ρ}{res:ρ}:
 ∀(L:a0g) (aY:List fZ) (fr:Fr) (A:AW) (tr:List Tr),GY E sq call ops fin L aY fr A tr=some res->A8 E sq call ops fin L aY (fr.get J) A tr=some res
 |[],aY,fr,A,tr,h=>h
 |i::L,aY,fr,A,tr,h=>by
  have h':PC E sq call ops (GY E sq call ops fin L) i aY fr A tr=some res:=h;show GZ E sq call ops (A8 E sq call ops fin L) i aY (fr.get J) A tr=some res;clear h;have put:∀(dst:Option Tmp) (v:xM) (p:List fZ) (A':AW) (t:List Tr),uR fr dst v (fun fr=>GY E sq call ops fin L p fr A' t)=some res->A8 E sq call ops fin L p (iT (fr.get J) dst v) A' t=some res:=fun dst v p A' t hp=>by
   obtain⟨cR,h1,h2⟩:=aW5 hp;rw[<-h2];exact Oz L p cR A' t h1
  unfold PC at h';unfold GZ;cases ho:dP ops i with
  |none=>grind
  |some o=>
   rw[ho] at h';simp only at h'⊢;cases hw:p6 ops (fr.get J) o with
   |none=>grind
   |some wd=>
    rw[hw] at h';simp only at h'⊢;cases hk:Nat.ble 2 (gQ E o.op) with
    |true=>
     rw[hk,eQ] at h';rw[eQ];cases hs:fq (qQ E sq A) aY with
     |false=>grind [ku]
     |true=>
      rw[hs,eQ] at h';rw[eQ];cases wd with
      |false=>grind [ku]
      |true=>
       rw[eQ] at h';rw[eQ];cases ek:iY E sq A (fr.get J) o.op with
       |fail=>grind
       |nd q=>grind
       |val v A'=>
        grind [Gj,yD]
       |call f args=>
        grind
    |false=>
     rw[hk,ku] at h';rw[ku];cases wd with
     |false=>grind [ku]
     |true=>
      rw[eQ] at h';rw[eQ];cases ek:Fo o.op E sq A (fr.get J) with
      |fail=>
       rw[ek] at h'
       grind
      |nd q=>grind
      |call f args=>grind
      |val v A'=>
       rw[ek] at h';simp only [Gj,yD] at h'⊢;cases hb:Nat.beq (gQ E o.op) 1 with
       |true=>
        grind [eQ]
       |false=>
        grind [ku]
theorem bk6{ops:a0o}(hs:Ew ops){tr:List Tr}(hw:oa ops tr){x0:Tr}(hx:x0∈tr){D:Nat->Prop}(hD: ¬D x0.i)(g0:Gt)(t:Nat):
 gv (fun j=>D j\/j=x0.i) tr g0 t=iT (gv D tr g0) x0.dst x0.v t:=by
 rw[Dk];obtain⟨o0,FA,vA⟩:=hw.op x0 hx;have ED:∀x∈tr,∀y∈tr,x.dst=some t->y.dst=some t->x=y:=fun x hx y hy h1 h2=>by
  obtain⟨ox,Nm,An⟩:=hw.op x hx;obtain⟨oy,Ux,pU⟩:=hw.op y hy;exact hw.HO x hx y hy (hs.2 _ _ _ _ t Nm Ux (An▸h1) (pU▸h2))
 by_cases hd:x0.dst=some t
 ·rw[if_pos hd];rcases v5 (fun j=>D j\/j=x0.i) g0 t tr with⟨x,pL,_,Nh,hv⟩|⟨jA,_⟩
  ·grind
  grind
 ·rw[if_neg hd];rcases v5 (fun j=>D j\/j=x0.i) g0 t tr with⟨x,pL,U1,Nh,hv⟩|⟨jA,hv⟩
  ·have cy2:D x.i:=U1.resolve_right (fun e=>hd (by grind [hw.HO]))
   grind [v5,absurd]
  grind [v5,absurd]
theorem bU.iT{β:af}{n:Nat}{g:Gt}{a:Act}(h:bU β n g a.tmps){dst:Option Tmp}(hd:∀d,dst=some d->d<n){v v':xM}(hv:aj β v v'):bU β n (Go.Ex.iT g dst v) (a.put dst v').tmps:=by
 cases dst with
 |none=>exact h
 |some d=>
  have lU:=hd d rfl;refine⟨by simp[Act.put,h.1],fun t=> ?_⟩;rw[Dk];show aj β _ ((a.tmps.setIfInBounds d v').getD t undef);by_cases vz:d=t
  ·subst vz;have hs:d<a.tmps.size:=by rw[h.1];exact lU
   simp_all
  ·rw[if_neg (fun e=>vz (xC e))];have:(a.tmps.setIfInBounds d v').getD t undef=a.tmps.getD t undef:=by simp[Array.getElem?_setIfInBounds_ne vz]
   rw[this];exact h.2 t
theorem bU.ext{β:af}{n:Nat}{g g':Gt}{tmps:a0x}(h:bU β n g tmps)(e:∀t,g' t=g t):bU β n g' tmps:=⟨h.1,fun t=>by rw[e t];exact h.2 t⟩
theorem VR{ops:a0o}{g g':Gt}{o:Oper}(h:∀t∈o.looksAt ⟨ops⟩,g t=g' t):p6 ops g o=p6 ops g' o:=by
 unfold p6;split
 ·rfl
 grind [fK,Oper.looksAt,List.mem_append_right]
theorem Jt{E:au}{ops:a0o}{g g':Gt}{o:Oper}(h:∀t∈o.looksAt ⟨ops⟩,g t=g' t):∀x∈o.op.operands,ev E g x=ev E g' x:=fun x hx=>aQ4 fun t ht=>h t (by
 unfold Oper.looksAt;refine List.mem_append_left _ (List.mem_filterMap.2 ⟨x,a0D,by rw[ht]⟩))
structure PE (E:au) (sq:a0c) (δ:a0j) (ops:a0o) (g0:Gt) (tr:List Tr) (e:fZ):Prop where
 ex:∃pre x0 tl,tr=pre++x0::tl/\x0.i=e.i/\x0.v=e.v/\oa ops (x0::tl)/\e.g=gv (fun _=>True) tl g0
 op:ops[e.i]? =some e.o
 kind:gQ E e.o.op<=1
 want:p6 ops e.g e.o=some e.wanted
 unw:e.wanted=false->e.v=undef
 qt:e.wanted=true->e.nb=none->e.sy=none->gQ E e.o.op=0/\∃A1,aV E sq A1 e.g e.o.op= .val e.v A1
 fr:e.wanted=true->e.sy=none->∀N blk,e.nb=some (N,blk)->gQ E e.o.op=1/\∃A1 A2,A1.next=N/\A1.get N=none/\aV E sq A1 e.g e.o.op= .val e.v A2/\A2.get N=some blk
 sy:∀nd,e.sy=some nd->e.wanted=true/\bP δ nd/\e.nb=none
theorem PE.cons{E:au}{sq:a0c}{δ:a0j}{ops:a0o}{g0:Gt}{tr:List Tr}{e:fZ}(h:PE E sq δ ops g0 tr e)(x:Tr):PE E sq δ ops g0 (x::tr) e:=by
 obtain⟨pre,x0,tl,h1,h2⟩:=h.ex;exact⟨⟨x::pre,x0,tl,by rw[h1];rfl,h2⟩,h.op,h.kind,h.want,h.unw,h.qt,h.fr,h.sy⟩
structure PJ (w0:World) (E:au) (n:Nat) (ops:a0o) (g0:Gt) (β0:af) (A0:AW) (ds:List Deferred) (D:Nat->Prop) (β:af) (A:AW) (aY:List fZ) (tr:List Tr) (a:Act) (w:World):Prop where
 qx:AA ops D
 MK:∀x∈tr,∀o,ops[x.i]? =some o->2<=gQ E o.op->D x.i
 un:∀x∈tr,¬D x.i->∃e∈aY,e.i=x.i
 only:∀j,D j->∃x∈tr,x.i=j
 frame:bU β n (gv D tr g0) a.tmps
 inv:Inv w0 E.G β A w
 fresh:∀e∈aY,¬D e.i->∀N blk,e.nb=some (N,blk)->β N=none/\N<A.next/\A0.next<=N/\β.o N=none
 grow:β0.grow β A0.next
 cW:A0.next<=A.next
 defers:a.defers=ds
section
variable{P:Program}{E:au}(ok:E.Ok P){sq:a0c}(aR:E.Seq P sq){w0:World}{n:Nat}{ops:a0o}(hs:Ew ops)(mQ:∀o∈ops,∀d,o.dst=some d->d<n){g0:Gt}{β0:af}{A0:AW}{ds:List Deferred}{ro:a0r}
include ok aR hs mQ
theorem WY{D:Nat->Prop}{β:af}{A:AW}{aY:List fZ}{tr:List Tr}{a:Act}{w:World}(hw:oa ops tr)(j:PJ w0 E n ops g0 β0 A0 ds D β A aY tr a w)(jZ:∀e∈aY,PE E sq β0.d ops g0 tr e)(vu:∀e∈aY,∀e'∈aY,∀N b b',e.nb=some (N,b)->e'.nb=some (N,b')->e.i=e'.i)(hun:∀e∈aY,∀e'∈aY,e.i=e'.i->e=e')
 {e:fZ} (he:e∈aY) (bg:qQ E sq A e=true) (hn: ¬D e.i) (hr:∀ed∈e.o.after.toList,Region.binds .any ed=true->D ed.on) {Q:Exit->Act->World->Prop} {K:Act->World->Prop}
 (hK:∀β' a' w',PJ w0 E n ops g0 β0 A0 ds (fun x=>D x\/x=e.i) β' A aY tr a' w'->K a' w'):wpOpIn (kw ro) 0 P ⟨ops⟩ Q e.i K a w:=by
 have pe:=jZ e he;obtain⟨pre,x0,tl,Nj,CA,hxv,hw0,hg⟩:=pe.ex;have aj1:x0∈tr:=by rw[Nj];exact List.mem_append_right _ xn
 have cu9:x0.dst=e.o.dst:=by
  obtain⟨o1,ru,ly⟩:=hw.op x0 aj1;rw[CA,pe.op] at ru;cases ru;exact ly
 have ag:∀t∈e.o.looksAt ⟨ops⟩,gv D tr g0 t=e.g t:=fun t ht=>by rw[hg];grind [ag4,j.qx,pe.op]
 have hom:e.o∈ops:=xu pe.op;have bH9:AA ops (fun x=>D x\/x=e.i):=fun i oi hi hd ed UH hb=>by
  rcases hd with hd|hd
  ·exact .inl (j.qx i oi hi hd ed UH hb)
  grind [pe.op]
 have mk:∀β' v' w',aj β' e.v v'->Inv w0 E.G β' A w'->β.le β'->(∀B,B<A.next->(∀N b,e.nb=some (N,b)->B≠N)->β' B=β B/\β'.o B=β.o B)->β0.grow β' A0.next->PJ w0 E n ops g0 β0 A0 ds (fun x=>D x\/x=e.i) β' A aY tr (a.put e.o.dst v') w':=fun β' v' w' hv bZ aK BA hg0=>by
  refine⟨bH9,fun x hx o ho hk=> .inl (j.MK x hx o ho hk),fun x hx j4=>j.un x hx (fun h=>j4 (.inl h)),fun i hi=> ?_,?_,bZ,fun e' bT cw5 N blk SG=> ?_,hg0,j.cW,?_⟩
  ·rcases hi with hi|hi
   ·exact j.only i hi
   grind
  ·have h1:=(j.frame.mono aK).iT (dst:=e.o.dst) (fun d hd=>mQ e.o hom d hd) hv;refine h1.ext (fun t=> ?_);have h2:=bk6 hs hw aj1 (D:=D) a0D g0 t
   simp_all
  ·grind [j.fresh]
  ·cases e.o.dst<;>exact j.defers
 unfold wpOpIn;have ek:(⟨ops⟩:Array Oper)[e.i]? =some e.o:=by simpa using pe.op
 simp only [ek];have zv:=Gs (a:=a) (by rw[VR ag];exact pe.want) j.frame;rw[zv];cases CB:e.wanted with
 |false=>
  rw[if_neg a0C];refine⟨fun _ _=>trivial,hK β _ w (mk β undef w ?_ j.inv (af.le_refl _) (fun _ _ _=>⟨rfl,rfl⟩) j.grow)⟩;rw[pe.unw CB];exact aj.undef
 |true=>
  rw[if_pos rfl];unfold Oper.wpIn;refine⟨fun _ _=>trivial,?_⟩;have oc:∀A1,aV E sq A1 (gv D tr g0) e.o.op=aV E sq A1 e.g e.o.op:=fun A1=>Wy (Jt ag)
  cases x9:e.sy with
  |some nd=>
   obtain⟨_,h3,tG⟩:=pe.sy nd x9;have h2:pz E sq A e.g e.o.op nd=some e.v:=by
    unfold qQ at bg;rw[CB,eQ,tG,x9] at bg;simp only at bg;split at bg
    ·grind [DQ]
    ·cases bg
   have h5:=(V' (Jt ag) nd).trans h2;obtain⟨v',aM,hv⟩:=Y' ok aR j.inv j.frame h5 (by rw[j.grow.d];exact h3);rw[aE5 h5,aM];exact hK β _ w (mk β v' w hv j.inv (af.le_refl _) (fun _ _ _=>⟨rfl,rfl⟩) j.grow)
  |none=>
  cases tG:e.nb with
  |none=>
   obtain⟨lS,A1,CV⟩:=pe.qt CB tG x9;have ak9:aV E sq A (gv D tr g0) e.o.op= .val e.v A:=by
    rw[oc];unfold qQ at bg;rw[CB,eQ,tG,x9] at bg;simp only [KL] at bg;cases hp:wa e.o.op with
    |true=>grind [Xh]
    |false=>
     grind [ku,N9,DQ]
   obtain⟨β',v',w',aM,hv,bZ,mu,_⟩:=Ro ok aR j.inv j.frame ak9;have res:=hK β' _ w' (mk β' v' w' hv bZ (j.inv.gC mu) (fun B hB _=>⟨mu.f B hB,mu.o B hB⟩) (af.iP j.grow mu j.cW));rw[Ox ak9 a0C];rcases aM with eB|⟨eB,rfl⟩
   ·rw[eB];exact res
   ·rw[eB];exact res
  |some nb=>
   obtain⟨N,blk⟩:=nb;obtain⟨fk,A1,A2,UW,hN0,CV,U5⟩:=pe.fr CB x9 N blk tG;obtain⟨cs,es,bC,ty,v',jj,aM,cJ,hv⟩:=aQ0 (A:=A1) ok j.inv j.frame fk ((oc A1).trans CV);have wS:blk=⟨.cells cs,es,true,false,ty⟩:=by
    rw[jj] at U5;rcases A1.ni ⟨.cells cs,es,true,false,ty⟩ a0D N with⟨e1,_⟩|e1
    ·grind
    ·grind
   obtain⟨hbN,SW,bI8,_⟩:=j.fresh e he hn N blk tG;have aK:β.le (β.put N ⟨w.heap.size,0,es,bC.length⟩):=⟨fun B lb eb=>by
    rw[af.rV]
    grind,fun _ _ h=>h,fun _ _ h=>h,rfl,rfl⟩
   have bZ:=j.inv.map N SW hbN (.cells ⟨bC⟩ ty) ⟨w.heap.size,0,es,bC.length⟩ rfl (fun b hb=>by
    unfold qQ at bg;rw[CB,eQ,tG] at bg;simp only [hb] at bg;have:=J2 bg;subst this;rw[wS];have EW:=cJ.mono aK;refine⟨⟨bC⟩,ty,(0,0),rfl,rfl,by simp[EW.1],fun i v hv=> ?_,fun _=>rfl,fun _=>by simp[EW.1],rfl,fun _=>rfl⟩
    grind [EW.get])
   rw[Ox CV a0C,aM];refine hK _ _ _ (mk _ v' _ (hv _ (by grind [ju])) bZ aK (fun B hB bq=>⟨?_,rfl⟩) ⟨fun B hB=> ?_,j.grow.z,j.grow.o,j.grow.d,j.grow.x⟩)
   ·rw[af.rV]
    grind
   ·rw[af.rV];by_cases hBN:B=N
    ·omega
    ·rw[if_neg hBN];exact j.grow.f B hB
end
end
end Go.Ex
