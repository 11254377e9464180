/- What these functions answer. -/
import Derived.Test.YthicpeihkkokmaaGreatDoorP8
set_option linter.unusedVariables false
set_option linter.unusedSimpArgs false
set_option maxHeartbeats 4000000
set_option maxRecDepth 100000
namespace Go.Fl
theorem j8.TS{w:Wd}{R:St->Prop}(H:∀B s,ma w B s->R s):∀{d:Nat} {l:a0p},j8 w d l->∀s∈l,dM R s
 |0,l,h,s,hs=>by rw[show l=[] from h] at hs;cases hs
 |d+1,l,h,s,hs=>by
  have h1:=h s hs;have h3:=H _ _ h1;obtain⟨kind,name,cf,bh,th,el⟩:=s;obtain⟨n1,n2⟩:=h1.nest;refine .mk h3 (fun s hs=> ?_) (fun s hs=> ?_)
  ·rcases n1 with rfl|n1
   ·cases hs
   ·exact j8.TS H n1 s hs
  ·rcases n2 with rfl|n2
   ·cases hs
   ·exact j8.TS H n2 s hs
end Go.Fl
namespace Go.Proofs.YthicpeihkkokmaaGreatDoor
open Go.Ex Go.RowKit Go.Sort Go.Fl
theorem Yh{s:aq}:∀{l:a0s},s∈l->∃v,cw l s=some v
 |x::l,h=>by
  show∃v,(if x=s then some 0 else(cw l s).map (· +1))=some v;split
  ·exact⟨0,rfl⟩
  ·rename_i hx;obtain⟨v,hv⟩:=Yh ((xG.1 h).elim (fun e=>absurd e.symm hx) id);exact⟨v+1,by rw[hv];rfl⟩
section
variable{ar:a0f}{x:Cx}
theorem eM.ok(hx:eM ar x):Iy x:=by
 have hn:=hx.f.n;have hf:=hx.f.flags.1;obtain⟨_,ints,tables,al,h1,h2,h3,h4,h5,_⟩:=hx.f.comps _ _ hx.c;refine⟨hx.c,?_,a0B,a0B⟩;rw[h5];simp;omega
structure NR (ar:a0f) (x:Cx) (h:Hn):Prop where
 nm:∃k al,ar[x.i]? =some al/\k<al.length/\h.name=nm 104 k
 ss:∀s∈h.body,dM (fun s=>jR s/\Jl ar x s) s
 n:St.ns h.body<=12
theorem D0(hx:eM ar x){v:List Hn}(hv:v∈x.cm.aT){h:Hn}(hh:h∈v):NR ar x h:=by
 obtain⟨_,ints,tables,al,h1,h2,h3,h4,h5,_,_,_,h9⟩:=hx.f.comps _ _ hx.c;obtain⟨_,h6,h7⟩:=h9 v hv;obtain⟨k,hk⟩:=qI hh;have ho:=h7 k h hk;obtain⟨n,hn,_,hb⟩:=ho.mm;have aQ:=hx.f.jC al (xu h4);have hw:(⟨⟨ints,tables,x.f.flags.length,n⟩,ar,x.i⟩:Wd).Ok:=⟨⟨h2,h3,hx.f.flags.1,aQ.2.2 n (xu hn)⟩,hx.f.n.2.2,fun l h=>(hx.f.jC l h).2⟩;have vars:∀s,(∃k<ints,s=nm 120 k)\/s=nm 98 0\/(0<tables/\s=nm 116 0)->∃v,cw x.vn s=some v:=fun s hs=>Yh (by
  unfold Cx.vn;rw[h5,List.map_append,List.map_cons,xF,xG,List.map_map,List.map_map];rcases hs with⟨k,hk,rfl⟩|rfl|⟨ht,rfl⟩
  ·exact .inl (xJ.2 ⟨k,List.mem_range.2 hk,rfl⟩)
  ·exact .inr (.inl Y)
  ·exact .inr (.inr (xJ.2 ⟨0,List.mem_range.2 ht,rfl⟩)))
 refine⟨⟨k,al,h4,(by have:=(xe.1 hk).1;omega),ho.name⟩,fun s hs=> ?_,ho.n⟩;refine(j8.all hw hb ho.n s hs).and (hb.TS (R:=Jl ar x) (fun B s hs=> ?_) s hs);cases hs with
 |nz k hk he=>exact⟨fun _=>vars _ (.inl ⟨k,hk,rfl⟩),fun h=>a0B,fun h=>a0B⟩
 |BS he=>exact⟨fun _=>vars _ (.inr (.inl Y)),fun h=>a0B,fun h=>a0B⟩
 |put h _ _=>exact⟨fun _=>vars _ (.inr (.inr ⟨h,rfl⟩)),fun h=>a0B,fun h=>a0B⟩
 |del h _=>exact⟨fun _=>vars _ (.inr (.inr ⟨h,rfl⟩)),fun h=>a0B,fun h=>a0B⟩
 |Eo k hk _ _=>exact⟨fun _=>vars _ (.inl ⟨k,hk,rfl⟩),fun h=>a0B,fun h=>a0B⟩
 |send i h n hi hh _ _=>exact⟨fun h=>a0B,fun _=>⟨i,_,h,hi,rfl,iR hh,rfl⟩,fun h=>a0B⟩
 |Ci h n hi hh _ _=>exact⟨fun h=>a0B,fun h=>a0B,fun _=>⟨_,h,hi,iR hh,rfl⟩⟩
 |cond|EB|store|stop=>exact⟨fun h=>a0B,fun h=>a0B,fun h=>a0B⟩
def hE(ar:a0f)(x:Cx)(h:Hn):a0i:=(St.fm h.body).flatMap (rH ar x (hN ar x.i h.name))
def F6(ar:a0f)(x:Cx):a0m:=(List.range x.cm.vars.length).map (fun v=>(⟨1,(x.i:Nat),(v:Nat)⟩:Nd))++x.cm.aT.flatten.map fun h=>hN ar x.i h.name
def cE(ar:a0f)(x:Cx):a0i:=x.cm.aT.flatten.flatMap (hE ar x)
structure BI (b:Bd) (ns:a0m) (es:a0i):Prop where
 l:b.l.Nodup
 E:b.E.Nodup
 ml:∀n,n∈b.l↔n∈ns\/∃e∈es,n=e.1\/n=e.2
 mE:∀e,e∈b.E↔e∈es
 nl:b.l.length<=ns.length+2*es.length
 nE:b.E.length<=es.length
theorem O'{n:Nd}{l:a0m}:(jh n l).length<=l.length+1:=by
 unfold jh;split
 ·omega
 ·rw[xa];exact xk _
theorem aO5{e:Nd×Nd}{l:a0i}:(tD e l).length<=l.length+1:=by
 unfold tD;split
 ·omega
 ·rw[xa];exact xk _
theorem BI.node{b:Bd}{ns:a0m}{es:a0i}(h:BI b ns es)(n:Nd)(c:Int)(o:Nd):BI {b with c:=c,h:=o,l:=jh n b.l} (ns++[n]) es:=by
 refine⟨PP h.l,h.E,fun m=> ?_,h.mE,?_,h.nE⟩
 ·show m∈jh n b.l↔_;rw[O9,h.ml,xF,xy];grind
 ·have:=O' (n:=n) (l:=b.l);have:=h.nl;show(jh n b.l).length<=_;rw[xa,List.length_singleton];omega
theorem BI.jl{b:Bd}{ns:a0m}{es:a0i}(h:BI b ns es)(e:Nd×Nd):BI (b.jl e) ns (es++[e]):=by
 refine⟨PP (PP h.l),aY2 h.E,fun m=> ?_,fun a=> ?_,?_,?_⟩
 ·show m∈jh e.2 (jh e.1 b.l)↔_;rw[O9,O9,h.ml];simp only [xF,xy];grind
 ·show a∈tD e b.E↔_;rw[aN9,h.mE,xF,xy]
 ·have h1:=O' (n:=e.1) (l:=b.l);have h2:=O' (n:=e.2) (l:=jh e.1 b.l);have:=h.nl;show(jh e.2 (jh e.1 b.l)).length<=_;rw[xa,List.length_singleton];omega
 ·have:=aO5 (e:=e) (l:=b.E);have:=h.nE;show(tD e b.E).length<=_;rw[xa,List.length_singleton];omega
theorem BI.j9{ns:a0m}:∀(uz:a0i) {b:Bd} {es:a0i},BI b ns es->BI (b.j9 uz) ns (es++uz)
 |[],_,_,h=>by rw[xj];exact h
 |e::uz,_,es,h=>by
  have:=BI.j9 uz (h.jl e);rw[a_] at this;exact this
def Bd.hand(ar:a0f)(x:Cx)(b:Bd)(h:Hn):Bd:=Bd.us ar x {b with c:=(x.i:Nat),h:=hN ar x.i h.name,l:=jh (hN ar x.i h.name) b.l} (St.fm h.body)
theorem BI.ad0:∀(hs:List Hn) {b:Bd} {ns:a0m} {es:a0i},BI b ns es->BI (hs.foldl (Bd.hand ar x) b) (ns++hs.map fun h=>hN ar x.i h.name) (es++hs.flatMap (hE ar x))
 |[],_,_,_,h=>by rw[List.map_nil,List.flatMap_nil,xj,xj];exact h
 |a::hs,b,ns,es,h=>by
  have:=BI.ad0 hs ((h.node (hN ar x.i a.name) (x.i:Nat) (hN ar x.i a.name)).j9 (hE ar x a));rw[a_,a_] at this;exact this
def Bd.node(i:Nat)(b:Bd)(v:Nat):Bd:={b with l:=jh ⟨1,(i:Nat),(v:Nat)⟩ b.l}
theorem BI.vars{i:Nat}:∀(vs:a0g) {b:Bd} {ns:a0m} {es:a0i},BI b ns es->BI (vs.foldl (Bd.node i) b) (ns++vs.map fun v=>(⟨1,(i:Nat),(v:Nat)⟩:Nd)) es
 |[],_,_,_,h=>by rw[List.map_nil,xj];exact h
 |a::vs,b,ns,es,h=>by
  have:=BI.vars (i:=i) vs (h.node ⟨1,(i:Nat),(a:Nat)⟩ b.c b.h);rw[a_] at this;exact this
def Bd.cmp(ar:a0f)(x:Cx)(b:Bd):Bd:=x.cm.aT.foldl (fun b v=>v.foldl (Bd.hand ar x) b) ((List.range x.cm.vars.length).foldl (Bd.node x.i) b)
theorem BI.cmp{b:Bd}{ns:a0m}{es:a0i}(h:BI b ns es):BI (b.cmp ar x) (ns++F6 ar x) (es++cE ar x):=by
 have:=BI.ad0 (ar:=ar) (x:=x) x.cm.aT.flatten (h.vars (i:=x.i) (List.range x.cm.vars.length));rw[a_,List.foldl_flatten] at this;exact this
end
section
variable{X:a0a}{ar:a0f}{x:Cx}
def Bd.g(b:Bd)(x:Cx):Prop:=∃c h l E,b=⟨rD x.f x.src x.ids x.rows,0,c,h,l,E⟩
theorem Bd.x.g{b:Bd}(h:b.x x):b.g x:=by obtain⟨h,l,E,rfl⟩:=h;exact⟨_,_,_,_,rfl⟩
theorem of5(hx:eM ar x){C vr:a0b}{hs:List Hn}(hl:hs.length<=1000){n nv j:Nat}(hj:j<=1000){Q:a0d->Prop}:∀(aa V:List Hn),hs=V++aa->(∀h∈aa,NR ar x h)->∀{b:Bd},b.g x->
 (∀{b':Bd},b'.g x->b'=aa.foldl (Bd.hand ar x) b->Rn F X 129 4 ([jD x.i,.sl C,jD n,.sl vr,jD nv,jD (j+1)]++b'.d) Q)->
 Rn F X 129 5 ([jD x.i,.sl C,jD n,.sl vr,jD nv,jD j,.sl (hs.map Hn.s),jD hs.length,jD V.length]++b.d) Q
 |[],V,hp,_,b,hb,K=>by
  have aW:hs.length=V.length:=by rw[hp,xj]
  exact wr Y<|Wp.dF (ds:=[jD V.length,jD hs.length]) rfl ai a0B<|wo Y oA<|wj (K hb rfl)
 |a::aa,V,hp,hh,b,hb,K=>by
  have aW:hs.length=V.length+(aa.length+1):=by rw[hp,xa];rfl
  have ao:(hs.map Hn.s)[V.length]? =some a.s:=by rw[hp,List.map_append,xq (by rw[xm];exact xk _),xm,Nat.sub_self];rfl
  have ha:=hh a xn;obtain⟨q,al,aQ,hq,ii⟩:=ha.nm;have h3:=hx.f.jC al (xu aQ);have hi:=(xe.1 aQ).1;obtain⟨us,fs,fb,ot⟩:=Rh hx aQ;have Je:=Qq hx;have x6:=hx.ok;have UW:hN ar x.i a.name=⟨5,(x.i:Nat),(q:Nat)⟩:=by rw[ii];exact En hx aQ hq
  have Ap:a.body.length<=12:=xH (nj _) ha.n;have bY:Bd.x {b with c:=(x.i:Nat),h:=hN ar x.i a.name,l:=jh (hN ar x.i a.name) b.l} x:=by obtain⟨c,h,l,E,rfl⟩:=hb;exact⟨_,_,_,rfl⟩
  have st:=aI2 (X:=X) hx x6 Ap ha.ss bY;have ih:=of5 hx (C:=C) (vr:=vr) hl (n:=n) (nv:=nv) hj (Q:=Q) aa (V++[a]) (by rw[hp,a_];rfl) (fun h hm=>hh h (xo _ hm)) (b:=b.hand ar x a) (EC bY _).g K;rw[xa] at ih;rw[UW] at st;have eh:b.hand ar x a=Bd.us ar x {b with c:=(x.i:Nat),h:=⟨5,(x.i:Nat),(q:Nat)⟩,l:=jh ⟨5,(x.i:Nat),(q:Nat)⟩ b.l} (St.fm a.body):=by unfold Bd.hand;rw[UW]
  rw[eh] at ih;obtain⟨c,h,l,E,rfl⟩:=hb;obtain⟨an,ap,ab⟩:=a;simp only at ii;subst ii;refine wr Y<|Wp.dO (ds:=[jD V.length,jD hs.length]) rfl ai a0B<|wo Y (aA ao Y)<|Wp.aV (l:=[.str (nm 104 q),.sl (strs ap),.sl (St.ss ab)]) rfl rfl rfl ?_;dsimp only [c_,n_];refine wg 2 Y<|e_ (d:= .ptr (rD x.f x.src x.ids x.rows) 37) rfl rfl rfl<|e_ (d:= .ptr [.sl x.rows] 0) rfl Je rfl<|wg 1 Y<|Wp.dF (ds:=[jD x.i,jD 0]) rfl ai a0B<|wg 2 Y<|e_ (d:= .sl x.rows) rfl rfl rfl<|wo Y (az ot) ?_;dsimp only [c_,n_];refine Wp.dF (ds:=[jD x.i,jD ar.length]) rfl fp a0B<|wg 2 Y<|e_ (d:= .sl x.rows) rfl rfl rfl<|wo Y (aA fb rfl)<|wg 1 Y ?_;dsimp only [c_,n_];refine e_ (d:= .sl (strs (aP 104 al.length))) rfl rfl rfl<|Wp.rG Y (Qy a0B)<|e_ (d:= .sl []) rfl rfl rfl<|wo Y (OW h3.2.1)<|wg 1 Y ?_;dsimp only [c_,n_];refine wL Y (Du h3.2.1 hq) rfl ?_;dsimp only [c_,n_];refine wo Y (xS ⟨5,(x.i:Nat),(q:Nat)⟩ l)<|wg 1 Y ?_;dsimp only [c_,n_];refine wL Y st rfl ?_;dsimp only [c_,n_];exact wo Y oA<|wj ih
theorem of4(hx:eM ar x){C:a0b}{n:Nat}(hn:x.i<=1000){vs:a0y}(bI:vs.length<=1000){Q:a0d->Prop}:∀(aa V:a0y),vs=V++aa->(∀v∈aa,v.length<=1000/\∀h∈v,NR ar x h)->∀{b:Bd},b.g x->
 (∀{b':Bd},b'.g x->b'=aa.foldl (fun b v=>v.foldl (Bd.hand ar x) b) b->Rn F X 129 2 ([.sl C,jD n,jD (x.i+1)]++b'.d) Q)->
 Rn F X 129 4 ([jD x.i,.sl C,jD n,.sl (ca vs),jD vs.length,jD V.length]++b.d) Q
 |[],V,hp,_,b,hb,K=>by
  have aW:vs.length=V.length:=by rw[hp,xj]
  exact wr Y<|Wp.dF (ds:=[jD V.length,jD vs.length]) rfl ai a0B<|wo Y oA<|wj (K hb rfl)
 |a::aa,V,hp,hh,b,hb,K=>by
  have aW:vs.length=V.length+(aa.length+1):=by rw[hp,xa];rfl
  have ao:(ca vs)[V.length]? =some [.sl (a.map Hn.s)]:=by unfold ca;rw[hp,List.map_append,xq (by rw[xm];exact xk _),xm,Nat.sub_self];rfl
  obtain⟨h1,h2⟩:=hh a xn;have st:=of5 (X:=X) hx (C:=C) (vr:=ca vs) h1 (n:=n) (nv:=vs.length) (j:=V.length) a0B (Q:=Q) a [] rfl h2 hb (fun{b'} fY he=>by
   have:=of4 hx (C:=C) (n:=n) hn bI aa (V++[a]) (by rw[hp,a_];rfl) (fun v hm=>hh v (xo _ hm)) fY (fun bM h=>K bM (by rw[h,he];rfl));rw[xa] at this;exact this)
  exact wr Y<|Wp.dO (ds:=[jD V.length,jD vs.length]) rfl ai a0B<|wo Y (aA ao Y)<|Wp.aV (l:=[.sl (a.map Hn.s)]) rfl rfl rfl<|wo Y (az (xm _))<|wj st
theorem of3{C vr:a0b}{nm:aq}{n nv:Nat}{vars:a0b}{Q:a0d->Prop}{i k:Nat}(hk:k<=1000):∀(m v:Nat),v+m=k->∀{b:Bd},b.g x->
 (∀{b':Bd},b'.g x->b'=(List.range' v m).foldl (Bd.node i) b->Rn F X 129 4 ([jD i,.sl C,jD n,.sl vr,jD vr.length,jD 0]++b'.d) Q)->
 Rn F X 129 3 ([jD i,.sl C,jD n,jD k,jD v,.ptr b.fr b.fo,iD9 b.c,.int .u8 b.h.k,iD9 b.h.a,iD9 b.h.b,.str nm,.sl vars,.sl vr,.sl (b.l.map eS),.sl (b.E.map l5)]) Q
 |0,v,hv,b,hb,K=>by
  exact wr Y<|Wp.dF (ds:=[jD v,jD k]) rfl ai a0B<|wo Y bf<|wj (K hb rfl)
 |m+1,v,hv,b,hb,K=>by
  have ih:=of3 (C:=C) (vr:=vr) (nm:=nm) (n:=n) (nv:=nv) (vars:=vars) (Q:=Q) (i:=i) hk m (v+1) a0B (b:=Bd.node i b v) (by obtain⟨c,h,l,E,rfl⟩:=hb;exact⟨_,_,_,_,rfl⟩) K;exact wr Y<|Wp.dO (ds:=[jD v,jD k]) rfl ai a0B<|wo Y (xS ⟨1,(i:Nat),(v:Nat)⟩ b.l)<|wo Y oA<|wj ih
def eK(x:Cx)(p:Cm×Nat):Cx:={x with i:=p.2,cm:=p.1}
theorem of2(hf:gZ ar x.f)(hp':Ez ar x.rows)(dR:x.ids.length=32){Q:a0d->Prop}(hQ:∀o,Q o->∃a b c,o=[.sl a,.sl b,.sl c]):∀(aa V:List Cm),x.f.comps=V++aa->∀{b:Bd},b.g x->
 (∀{b':Bd},b'.g x->b'=(aa.zipIdx V.length).foldl (fun b p=>b.cmp ar (eK x p)) b->Rn F X 165 0 b'.d Q)->
 Rn F X 129 2 ([.sl (x.f.comps.map Cm.s),jD x.f.comps.length,jD V.length]++b.d) Q
 |[],V,hp,b,hb,K=>by
  have aW:x.f.comps.length=V.length:=by rw[hp,xj]
  refine wr Y<|Wp.dF (ds:=[jD V.length,jD x.f.comps.length]) rfl ai a0B<|wg 1 Y<|wx Y (K hb rfl) fun o ho=> ?_
  obtain⟨d1,d2,d3,rfl⟩:=hQ o ho;exact⟨rfl,wt Y ho⟩
 |a::aa,V,hp,b,hb,K=>by
  have aW:x.f.comps.length=V.length+(aa.length+1):=by rw[hp,xa];rfl
  have ao:(x.f.comps.map Cm.s)[V.length]? =some a.s:=by rw[hp,List.map_append,xq (by rw[xm];exact xk _),xm,Nat.sub_self];rfl
  have hc:x.f.comps[V.length]? =some a:=by rw[hp,xq (xk _),Nat.sub_self];rfl
  have hx:eM ar (eK x (a,V.length)):=⟨hf,hp',dR,hc⟩;have x6:=hx.ok;have hn:=hf.n;obtain⟨_,ints,tables,al,h1,h2,h3,h4,h5,h6,h7,h8,h9⟩:=hf.comps _ _ hc;have aQ:=hf.jC al (xu h4);have st:=of3 (X:=X) (x:=x) (C:=x.f.comps.map Cm.s) (vr:=ca a.aT) (nm:=a.name) (n:=x.f.comps.length) (nv:=a.aT.length) (vars:=a.vars.map Vr.s) (Q:=Q) (i:=V.length) x6.nv a.vars.length 0 (Nat.zero_add _) hb (fun{b'} fY he=>by
   have:=of4 (X:=X) hx (C:=x.f.comps.map Cm.s) (n:=x.f.comps.length) (by show V.length<=1000;omega) (vs:=a.aT) a0B (Q:=Q) a.aT [] rfl (fun v hv=>⟨by have:=(h9 v hv).2.1;omega,fun h hh=>D0 hx hv hh⟩) fY (fun{b2} bM h=>by
    have:=of2 hf hp' dR hQ aa (V++[a]) (by rw[hp,a_];rfl) bM (fun qv e3=>K qv (by
     rw[xa] at e3;rw[e3,h,he,List.zipIdx_cons,List.foldl_cons];unfold Bd.cmp;rw[List.range_eq_range'];rfl))
    rw[xa] at this;exact this)
   have e:(ca a.aT).length=a.aT.length:=xm _;rw[e];exact this)
  obtain⟨an,av,Jk⟩:=a;exact wr Y<|Wp.dO (ds:=[jD V.length,jD x.f.comps.length]) rfl ai a0B<|wo Y (aA ao Y)<|Wp.aV (l:=[.str an,.sl (av.map Vr.s),.sl (ca Jk)]) rfl rfl rfl<|wo Y (az (xm _))<|wj st
theorem of1{C:a0b}{n:Nat}{d:D}{Q:a0d->Prop}(hd:d=nT x.f x.src x.ids x.rows)(hk:n<=1000)(hC:Rn F X 95 0 x.f.s (·=x.f.s)):∀(m v:Nat),v+m=n->∀{l:a0m},
 Rn F X 129 2 ([.sl (x.f.comps.map Cm.s),jD x.f.comps.length,jD 0]++(⟨rD x.f x.src x.ids x.rows,0,0,⟨0,0,0⟩,((List.range' v m).map fun v=>(⟨4,(v:Nat),0⟩:Nd)).foldl (fun l n=>jh n l) l,[]⟩:Bd).d) Q->
 Rn F X 129 1 [d,jD n,jD v,.sl (l.map eS),.sl []] Q
 |0,v,hv,l,K=>by
  subst hd;refine wr Y<|Wp.dF (ds:=[jD v,jD n]) rfl ai a0B<|wg 3 Y<|Wp.aV (l:=x.f.s) rfl rfl rfl<|wg 1 Y ?_;dsimp only [dg.s,c_,n_];refine wL Y hC rfl ?_;dsimp only [dg.s,c_,n_];exact wo Y (az (xm _))<|wj K
 |m+1,v,hv,l,K=>by
  subst hd;have ih:=of1 (C:=C) (Q:=Q) rfl hk hC m (v+1) a0B (l:=jh ⟨4,(v:Nat),0⟩ l) K;exact wr Y<|Wp.dO (ds:=[jD v,jD n]) rfl ai a0B<|wo Y (xS ⟨4,(v:Nat),0⟩ l)<|wo Y oA<|wj ih
end
def fN(ar:a0f)(x:Cx):a0m:=(List.range x.f.flags.length).map (fun v=>(⟨4,(v:Nat),0⟩:Nd))++x.f.comps.zipIdx.flatMap fun p=>F6 ar (eK x p)
def fE(ar:a0f)(x:Cx):a0i:=x.f.comps.zipIdx.flatMap fun p=>cE ar (eK x p)
section
variable{X:a0a}{ar:a0f}{x:Cx}
theorem BI.as4:∀(cs:List (Cm×Nat)) {b:Bd} {ns:a0m} {es:a0i},BI b ns es->BI (cs.foldl (fun b p=>b.cmp ar (eK x p)) b) (ns++cs.flatMap fun p=>F6 ar (eK x p)) (es++cs.flatMap fun p=>cE ar (eK x p))
 |[],_,_,_,h=>by rw[List.flatMap_nil,List.flatMap_nil,xj,xj];exact h
 |a::cs,b,ns,es,h=>by
  have:=BI.as4 cs (h.cmp (ar:=ar) (x:=eK x a));rw[a_,a_] at this;exact this
theorem BI.flags:∀(ms:a0m) {b:Bd} {ns:a0m} {es:a0i},BI b ns es->BI {b with l:=ms.foldl (fun l n=>jh n l) b.l} (ns++ms) es
 |[],_,_,_,h=>by rw[xj];exact h
 |a::ms,b,ns,es,h=>by
  have:=BI.flags ms (h.node a b.c b.h);rw[a_] at this;exact this
end
section
variable{X:a0a}{ar:a0f}{x:Cx}
theorem qA{α β:Type}{f:α->List β}{m:Nat}:∀{l:List α},(∀a∈l,(f a).length<=m)->(l.flatMap f).length<=l.length*m
 |[],_=>xL _
 |a::l,h=>by
  have h1:=h a xn;have h2:=qA (l:=l) fun b hb=>h b (xo _ hb)
  rw[List.flatMap_cons,xa,xi,Nat.add_mul,Nat.one_mul];omega
theorem bd4(o:Nd)(a:Us):(rH ar x o a).length<=3:=by
 cases a with
 |rd s=>
  show((rN x s).map (·,o)).length<=3;rw[xm];unfold rN;split
  ·exact Nat.le_add_left ..
  ·split<;>exact Nat.le_add_left ..
 |_=>exact xh rfl
theorem bk4{h:Hn}(hh:NR ar x h):(hE ar x h).length<=7200:=by
 have h1:=qA (f:=rH ar x (hN ar x.i h.name)) (l:=St.fm h.body) (m:=3) fun a _=>bd4 _ a
 have h2:=(uv fun s hs=>(hh.ss s hs).mono fun s h=>h.1).1;have h3:=hh.n;unfold hE;omega
theorem YI(hx:eM ar x):x.cm.aT.flatten.length<=6:=by
 obtain⟨_,ints,tables,al,h1,h2,h3,h4,h5,h6,h7,h8,h9⟩:=hx.f.comps _ _ hx.c;have aQ:=hx.f.jC al (xu h4);have h:=qA (f:=fun v:List Hn=>v) (l:=x.cm.aT) (m:=3) fun v hv=>by have:=(h9 v hv).2.1;omega
 rw[List.flatMap_id'] at h;omega
theorem Dj(hx:eM ar x):x.cm.vars.length<=5:=by
 obtain⟨_,ints,tables,al,h1,h2,h3,h4,h5,h6,h7,h8,h9⟩:=hx.f.comps _ _ hx.c;rw[h5];simp;omega
theorem bp3(hx:eM ar x):(cE ar x).length<=43200:=by
 have h1:=qA (f:=hE ar x) (l:=x.cm.aT.flatten) (m:=7200) fun h hh=>by
  obtain⟨v,hv,hh⟩:=List.mem_flatten.1 hh;exact bk4 (D0 hx hv hh)
 have h2:=YI hx;unfold cE;omega
theorem bp2(hx:eM ar x):(F6 ar x).length<=11:=by
 have h1:=YI hx;have h2:=Dj hx;unfold F6;rw[xa,xm,xm,List.length_range];omega
structure vL (ar:a0f) (x:Cx):Prop where
 f:gZ ar x.f
 p:Ez ar x.rows
 id:x.ids.length=32
theorem vL.at(hx:vL ar x){p:Cm×Nat}(hp:p∈x.f.comps.zipIdx):eM ar (eK x p):=⟨hx.f,hx.p,hx.id,List.mem_zipIdx_iff_getElem?.1 hp⟩
theorem by7(hx:vL ar x):(fN ar x).length<=35/\(fE ar x).length<=129600:=by
 have hn:=hx.f.n;have CK:=hx.f.flags.1;have hl:x.f.comps.zipIdx.length<=3:=by rw[List.length_zipIdx];omega
 have h1:=qA (f:=fun p=>F6 ar (eK x p)) (l:=x.f.comps.zipIdx) (m:=11) fun p hp=>bp2 (hx.at hp)
 have h2:=qA (f:=fun p=>cE ar (eK x p)) (l:=x.f.comps.zipIdx) (m:=43200) fun p hp=>bp3 (hx.at hp)
 unfold fN fE;rw[xa,xm,List.length_range];omega
def OfB(ar:a0f)(x:Cx)(o:a0d):Prop:=∃l E,o=[.sl (Nd.rs (iH l)),.sl (nx E),.sl (nx (E.map z3))]/\l.Nodup/\E.Nodup/\l.length<=1000000/\E.length<=1000000/\
 (∀n,n∈l↔n∈fN ar x\/∃e∈fE ar x,n=e.1\/n=e.2)/\∀e,e∈E↔e∈fE ar x
theorem bn7(hx:vL ar x):Rn F X 129 0 [nT x.f x.src x.ids x.rows] (OfB ar x):=by
 have hn:=hx.f.n;have CK:=hx.f.flags.1;have aD:=by7 hx;refine wr Y<|wg 8 Y<|wo Y (az (xm _))<|b_ Y ?_;refine of1 (C:=[]) (n:=x.f.flags.length) rfl a0B (Ku hx.f.ok) x.f.flags.length 0 (Nat.zero_add _) (l:=[]) ?_;refine of2 hx.f hx.p hx.id (fun o ho=> ?_) x.f.comps [] rfl ⟨_,_,_,_,rfl⟩ ?_
 ·obtain⟨l,E,rfl,_⟩:=ho;exact⟨_,_,_,rfl⟩
 intro b hb he;have bi:BI (⟨rD x.f x.src x.ids x.rows,0,0,⟨0,0,0⟩,[],[]⟩:Bd) [] []:=⟨.nil,.nil,fun n=>a0C,fun e=>Iff.rfl,xL _,xL _⟩;have:=BI.as4 (ar:=ar) (x:=x) x.f.comps.zipIdx (bi.flags ((List.range' 0 x.f.flags.length).map fun v=>(⟨4,(v:Nat),0⟩:Nd)));obtain⟨h1,h2,h3,h4,h5,h6⟩:BI b (fN ar x) (fE ar x):=by
  rw[he];unfold fN;rw[List.range_eq_range'];exact this
 have hg:=aP9 (X:=X) (l:=b.l) (E:=b.E) a0B a0B (fun e he=>⟨(h3 _).2 (.inr ⟨e,(h4 e).1 he,.inl Y⟩),(h3 _).2 (.inr ⟨e,(h4 e).1 he,.inr Y⟩)⟩) b.fr b.fo b.c b.h.k b.h.a b.h.b;exact hg.mono fun o ho=>⟨b.l,b.E,ho,h1,h2,a0B,a0B,h3,h4⟩
end
theorem qY{α:Type}{f:α->a0d}{l aa V:List α}{a:α}(hp:l=V++a::aa):(l.map f)[V.length]? =some (f a):=by
 rw[hp,List.map_append,xq (by rw[xm];exact xk _),xm,Nat.sub_self];rfl
theorem nG{α:Type}{l V:List α}(hp:l=V++[]):l.length=V.length:=by rw[hp,xj]
theorem l6{α:Type}{l aa V:List α}{a:α}(hp:l=V++a::aa):l.length=V.length+(aa.length+1):=by rw[hp,xa];rfl
theorem lH{α:Type}{l aa V:List α}{a:α}(hp:l=V++a::aa):l=(V++[a])++aa:=by rw[hp,a_];rfl
def qZ(l:a0s)(s:aq):a0s:=if s∈l then l else l++[s]
section
variable{X:a0a}
theorem pN{out:a0s}(ho:out.length<=1000){vr hr:a0b}{n i nh j:Nat}(hj:j<=1000){s:aq}{p b:a0b}{Q:a0d->Prop}
 (K:Rn F X 143 2 [.sl (strs out),.sl vr,jD n,jD i,.sl hr,jD nh,jD (j+1)] Q):∀(m k:Nat),k+m=out.length->
 Rn F X 143 4 [.sl (strs out),.sl vr,jD n,jD i,.sl hr,jD nh,jD j,jD out.length,jD k,.str s,.sl p,.sl b] Q
 |0,k,hk=>by
  exact wr Y<|Wp.dF (ds:=[jD k,jD out.length]) rfl ai a0B<|wo Y oA<|wj K
 |m+1,k,hk=>by
  have ih:=pN ho (s:=s) (p:=p) (b:=b) hj K m (k+1) a0B;have ao:(strs out)[k]? =some [.str (out[k]' a0B)]:=by unfold strs;rw[xx,xc a0B];rfl
  exact wr Y<|Wp.dO (ds:=[jD k,jD out.length]) rfl ai a0B<|wy Y (qH (lA out))<|wo Y (O6 ao Y)<|wo Y oA<|wj ih
theorem mX{out:a0s}(ho:out.length<=1000){vr hr:a0b}{n i nh j:Nat}(hj:j<=1000){s:aq}{p b:a0b}{Q:a0d->Prop}:∀(aa V:a0s),out=V++aa->s∉V->
 (Rn F X 143 2 [.sl (strs (qZ out s)),.sl vr,jD n,jD i,.sl hr,jD nh,jD (j+1)] Q)->
 Rn F X 143 3 [.sl (strs out),.sl vr,jD n,jD i,.sl hr,jD nh,jD j,jD out.length,jD V.length,.str s,.sl p,.sl b] Q
 |[],V,hp,hs,K=>by
  have hl:=nG hp;rw[xj] at hp;subst hp;unfold qZ at K;rw[j_ hs] at K;exact wr Y<|Wp.dF (ds:=[jD out.length,jD out.length]) rfl ai a0B<|wg 1 Y<|e_ (d:= .sl [[.str s]]) rfl rfl rfl<|e_ (d:= .sl (strs (out++[s]))) rfl (by rw[gD (es:=1) (row:=[.str s]) rfl rfl (by rw[lA];omega) (by rw[lA];omega)];unfold strs;rw[List.map_append];rfl) rfl<|wo Y oA<|wj K
 |a::aa,V,hp,hs,K=>by
  have hl:=l6 hp;have ao:(strs out)[V.length]? =some [.str a]:=qY hp;refine wr Y<|Wp.dO (ds:=[jD V.length,jD out.length]) rfl ai a0B<|wy Y (qH (lA out))<|wo Y (O6 ao Y)<|d_ (ds:=[.str a,.str s]) rfl jE (fun e=> ?_) (fun e=> ?_)
  ·subst e;unfold qZ at K;rw[i_ (by rw[hp];simp)] at K;exact wo Y oA<|b_ Y (pN ho hj K (out.length - (V.length+1)) (V.length+1) a0B)
  ·have ih:=mX ho (p:=p) (b:=b) hj aa (V++[a]) (lH hp) (fun h=>(xF.1 h).elim hs fun h=>e (xy.1 h).symm) K;rw[xa] at ih;exact wo Y oA<|wj ih
theorem XR{l:a0s}{s:aq}:(qZ l s).length<=l.length+1:=by
 unfold qZ;split
 ·omega
 ·rw[xa];exact xk _
theorem cL{hs:List Hn}(hl:hs.length<=100){vr:a0b}{n i:Nat}(hi:i<=100){Q:a0d->Prop}:∀(aa V:List Hn),hs=V++aa->∀{out:a0s},out.length+aa.length<=1000->
 (Rn F X 143 1 [.sl (strs ((aa.map (·.name)).foldl qZ out)),.sl vr,jD n,jD (i+1)] Q)->
 Rn F X 143 2 [.sl (strs out),.sl vr,jD n,jD i,.sl (hs.map Hn.r),jD hs.length,jD V.length] Q
 |[],V,hp,out,ho,K=>by
  have hl:=nG hp;exact wr Y<|Wp.dF (ds:=[jD V.length,jD hs.length]) rfl ai a0B<|wo Y oA<|wj K
 |a::aa,V,hp,out,ho,K=>by
  have aW:=l6 hp;have ao:(hs.map Hn.r)[V.length]? =some a.r:=qY hp;rw[xi] at ho;have:=XR (l:=out) (s:=a.name);have ih:=cL hl (vr:=vr) (n:=n) hi aa (V++[a]) (lH hp) (out:=qZ out a.name) a0B K;rw[xa] at ih;obtain⟨an,ap,ab⟩:=a;exact wr Y<|Wp.dO (ds:=[jD V.length,jD hs.length]) rfl ai a0B<|wo Y (aA ao Y)<|Wp.aV (l:=[.str an,.sl (strs ap),.sl (St.rs ab)]) rfl rfl rfl<|wo Y (az (lA out))<|b_ Y (mX a0B a0B out [] rfl List.not_mem_nil ih)
theorem df{vs:a0y}(hl:vs.length<=100):∀(aa V:a0y),vs=V++aa->(∀v∈aa,v.length<=3)->∀{out:a0s},out.length+4*aa.length<=500->
 Rn F X 143 1 [.sl (strs out),.sl (pI vs),jD vs.length,jD V.length] (·=[.sl (strs (aa.foldl (fun l v=>(v.map (·.name)).foldl qZ l) out))])
 |[],V,hp,_,out,ho=>by
  have hl:=nG hp;exact wr Y<|Wp.dF (ds:=[jD V.length,jD vs.length]) rfl ai a0B<|wt Y Y
 |a::aa,V,hp,hv,out,ho=>by
  have aW:=l6 hp;have ao:(pI vs)[V.length]? =some [.sl (a.map Hn.r)]:=qY hp;have ha:=hv a xn;rw[xi] at ho;have fl:∀(ns out:a0s),(ns.foldl qZ out).length<=out.length+ns.length:=by
   intro ns
   induction ns with
   |nil=>exact fun _=>xk _
   |cons s ns ih=>intro out;have:=ih (qZ out s);have:=XR (l:=out) (s:=s);rw[List.foldl_cons,xi];omega
  have fa:=fl (a.map (·.name)) out;rw[xm] at fa;have ih:=df hl aa (V++[a]) (lH hp) (fun v h=>hv v (xo _ h)) (out:=(a.map (·.name)).foldl qZ out) a0B;rw[xa] at ih;exact wr Y<|Wp.dO (ds:=[jD V.length,jD vs.length]) rfl ai a0B<|wo Y (aA ao Y)<|e_ (d:= .sl (a.map Hn.r)) rfl rfl rfl<|wo Y (az (xm _))<|b_ Y (cL (hs:=a) a0B a0B a [] rfl a0B ih)
theorem be1:∀m≤3,∀k≤3,(aP 104 k).foldl qZ (aP 104 m)=aP 104 (max m k):=a0I
theorem Zi{ar:a0f}{x:Cx}(hx:eM ar x):Rn F X 143 0 x.cm.r (·=[.sl (strs (gI ar x.i))]):=by
 obtain⟨_,ints,tables,al,h1,h2,h3,h4,h5,h6,h7,⟨v0,o3,e0⟩,h9⟩:=hx.f.comps _ _ hx.c;have aQ:=hx.f.jC al (xu h4);have kH:∀v∈x.cm.aT,v.map (·.name)=aP 104 v.length:=fun v hv=>by
  refine List.ext_getElem? fun k=> ?_
  rw[aP,xx,xx];by_cases hk:k<v.length
  ·rw[xc hk,List.getElem?_range hk];exact congrArg some ((h9 v hv).2.2 k _ (xc hk)).name
  ·rw[List.getElem?_eq_none a0B,List.getElem?_eq_none (by rw[List.length_range];omega)];rfl
 have bJ5:∀(vs:a0y),(∀v∈vs,v∈x.cm.aT)->∀m≤al.length,∃k≤al.length,vs.foldl (fun l v=>(v.map (·.name)).foldl qZ l) (aP 104 m)=aP 104 k/\m<=k/\∀v∈vs,v.length<=k:=by
  intro vs
  induction vs with
  |nil=>exact fun _ m hm=>⟨m,hm,rfl,xk _,fun v h=>nomatch h⟩
  |cons v vs ih=>
   intro hv m hm;have hvv:=hv v xn;have U7:=(h9 v hvv).2.1;obtain⟨k,k1,k2,k3,k4⟩:=ih (fun w hw=>hv w (xo _ hw)) (max m v.length) a0B;refine⟨k,k1,?_,a0B,fun w hw=> ?_⟩
   ·rw[List.foldl_cons,kH v hvv,be1 m a0B v.length a0B,k2]
   ·rcases xG.1 hw with rfl|hw
    ·omega
    ·exact k4 w hw
 obtain⟨k,k1,k2,_,k4⟩:=bJ5 x.cm.aT (fun _ h=>h) 0 (xL _);have hk:k=al.length:=by have:=k4 v0 o3;omega
 subst hk;have:=df (X:=X) (vs:=x.cm.aT) a0B x.cm.aT [] rfl (fun v hv=>by have:=(h9 v hv).2.1;omega) (out:=[]) (by show 0+_<=_;omega);rw[show([]:a0s)=aP 104 0 from Y,k2] at this;have e:gI ar x.i=aP 104 al.length:=by unfold gI;rw[h4];rfl
 rw[e];exact wr Y<|wo Y (az (xm _))<|wj this
theorem ah9{f:dg}(hl:f.comps.length<=1000){s:aq}:∀(aa V:List Cm) (v:Nat),f.comps=V++aa->cw (aa.map (·.name)) s=some v->Rn F X 147 1 [.str s,.sl (f.comps.map Cm.r),jD f.comps.length,jD V.length] (·=[jD (v+V.length)])
 |[],V,v,hp,h=>nomatch h
 |a::aa,V,v,hp,h=>by
  have aW:=l6 hp;have ao:(f.comps.map Cm.r)[V.length]? =some a.r:=qY hp;have h:(if a.name=s then some 0 else(cw (aa.map (·.name)) s).map (· +1))=some v:=h;obtain⟨an,av,Jk⟩:=a;refine wr Y<|Wp.dO (ds:=[jD V.length,jD f.comps.length]) rfl ai a0B<|wo Y (aA ao Y)<|Wp.aV (l:=[.str an,.sl (av.map Vr.r),.sl (pI Jk)]) rfl rfl rfl<|d_ (ds:=[.str an,.str s]) rfl jE (fun e=> ?_) (fun e=> ?_)
  ·rw[i_ e] at h;cases h;exact wt Y (by rw[Nat.zero_add])
  ·rw[j_ e] at h;obtain⟨w,h1,rfl⟩:=xp.1 h;have ih:=ah9 hl aa (V++[⟨an,av,Jk⟩]) w (lH hp) h1;rw[xa] at ih;refine wo Y oA<|b_ Y (ih.mono fun o h=> ?_);rw[h,List.length_singleton,Nat.add_right_comm,Nat.add_assoc]
theorem aM4{f:dg}(hl:f.comps.length<=1000){s:aq}{v:Nat}(h:cw (f.comps.map (·.name)) s=some v):Rn F X 147 0 (f.r++[.str s]) (·=[jD v]):=by
 exact wr Y<|wo Y (az (xm _))<|wj (ah9 hl f.comps [] v rfl h)
theorem rh1{l:a0s}(hl:l.length<=1000){s:aq}:∀(aa V:a0s) (v:Nat),l=V++aa->cw aa s=some v->Rn F X 148 1 [.str s,.sl (strs l),jD l.length,jD V.length] (·=[jD (v+V.length)])
 |[],V,v,hp,h=>nomatch h
 |a::aa,V,v,hp,h=>by
  have aW:=l6 hp;have ao:(strs l)[V.length]? =some [.str a]:=qY hp;have h:(if a=s then some 0 else(cw aa s).map (· +1))=some v:=h;refine wr Y<|Wp.dO (ds:=[jD V.length,jD l.length]) rfl ai a0B<|wo Y (aA ao Y)<|e_ (d:= .str a) rfl rfl rfl<|d_ (ds:=[.str a,.str s]) rfl jE (fun e=> ?_) (fun e=> ?_)
  ·rw[i_ e] at h;cases h;exact wt Y (by rw[Nat.zero_add])
  ·rw[j_ e] at h;obtain⟨w,h1,rfl⟩:=xp.1 h;have ih:=rh1 hl aa (V++[a]) w (lH hp) h1;rw[xa] at ih;refine wo Y oA<|b_ Y (ih.mono fun o h=> ?_);rw[h,List.length_singleton,Nat.add_right_comm,Nat.add_assoc]
theorem Xf{ar:a0f}{x:Cx}(hx:eM ar x){s:aq}{v:Nat}(h:cw (gI ar x.i) s=some v):Rn F X 148 0 (x.cm.r++[.str s]) (·=[jD v]):=by
 have hl:(gI ar x.i).length<=1000:=by
  obtain⟨_,ints,tables,al,_,_,_,h4,_⟩:=hx.f.comps _ _ hx.c;have:=hx.f.jC al (xu h4);unfold gI;rw[Gx,h4];show al.length<=1000;omega
 exact wr Y<|wl Y (Zi hx) rfl<|wo Y (az (lA _))<|b_ Y (rh1 hl _ [] v rfl h)
theorem nm3{i:Nat}{s nm:aq}{L lk cs:a0b}{m6:List Fg}(hf:m6.length<=2){j n:Nat}(hj:j<=1000000){Q:a0d->Prop}:∀(aa V:List Fg),m6=V++aa->∀{out:a0m},out.length+aa.length<=1000000->
 (Rn F X 149 1 [jD i,.sl (fe (eo out ((mt s V.length (aa.map (·.name))).map fun k=>⟨4,(k:Nat),0⟩))),.sl L,jD n,jD (j+1),.str nm,.sl (m6.map Fg.d),.sl lk,.sl cs] Q)->
 Rn F X 149 3 [jD i,.sl (fe out),.str s,.sl L,jD n,jD j,.sl (m6.map Fg.d),jD m6.length,jD V.length,.str nm,.sl lk,.sl cs] Q
 |[],V,hp,out,ho,K=>by
  have hl:=nG hp;exact wr Y<|Wp.dF (ds:=[jD V.length,jD m6.length]) rfl ai a0B<|wo Y oA<|wj K
 |⟨vn,vb⟩::aa,V,hp,out,ho,K=>by
  have hl:=l6 hp;have ao:(m6.map Fg.d)[V.length]? =some [.str vn,.bool vb]:=qY hp;rw[xi] at ho;have ih:=fun{out'} jo=>nm3 (i:=i) (s:=s) (nm:=nm) (L:=L) (lk:=lk) (cs:=cs) hf (j:=j) (n:=n) hj (Q:=Q) aa (V++[⟨vn,vb⟩]) (lH hp) (out:=out') jo
  rw[xa] at ih;have K:Rn F X 149 1 [jD i,.sl (fe (eo out (((if vn=s then[V.length] else[])++mt s (V.length+1) (aa.map (·.name))).map fun k=>⟨4,(k:Nat),0⟩))),.sl L,jD n,jD (j+1),.str nm,.sl (m6.map Fg.d),.sl lk,.sl cs] Q:=K;have key:Wp F X 149 (.br (.bin .eql 3) [cd 13,cd 2] bf8 (.op (.bin .add 0) [cd 8,.int .i64 1] aV7)) [jD i,.sl (fe out),.str s,.sl L,jD n,jD j,.sl (m6.map Fg.d),jD m6.length,jD V.length,.str nm,.sl lk,.sl cs,.ptr [.str vn,.bool vb] 0,.str vn,.bool vb] Q:=by
   refine d_ (ds:=[.str vn,.str s]) rfl jE (fun e=> ?_) (fun e=> ?_)
   ·rw[i_ e] at K;have:=Pa (n:=⟨4,(V.length:Nat),0⟩) (l:=out);exact wl Y (za a0B ⟨4,(V.length:Nat),0⟩) rfl<|wo Y oA<|b_ Y (ih (out':=ra out ⟨4,(V.length:Nat),0⟩) a0B K)
   ·rw[j_ e] at K;exact wo Y oA<|b_ Y (ih a0B K)
  refine wr Y<|Wp.dO (ds:=[jD V.length,jD m6.length]) rfl ai a0B<|wo Y (aA ao Y) ?_;cases vb with
  |true=>exact Wp.aV (l:=[.str vn,.bool true]) rfl rfl rfl key
  |false=>exact Wp.opN (l:=[.str vn,.bool false]) rfl rfl rfl (Wp.aV (l:=[.str vn,.bool false]) rfl rfl rfl key)
theorem nm2{i:Nat}{s nm:aq}{L lk cs:a0b}{Co:List Vr}(hv:Co.length<=5){m6:List Fg}(hf:m6.length<=2){j n:Nat}(hj:j<=1000000){Q:a0d->Prop}:∀(aa V:List Vr),Co=V++aa->∀{out:a0m},out.length+aa.length+2<=1000000->
 (Rn F X 149 1 [jD i,.sl (fe (eo (eo out ((mt s V.length (aa.map (·.name))).map fun k=>⟨1,(i:Nat),(k:Nat)⟩)) ((mt s 0 (m6.map (·.name))).map fun k=>⟨4,(k:Nat),0⟩))),.sl L,jD n,jD (j+1),.str nm,.sl (m6.map Fg.d),.sl lk,.sl cs] Q)->
 Rn F X 149 2 [jD i,.sl (fe out),.str s,.sl L,jD n,jD j,.sl (Co.map Vr.r),jD Co.length,jD V.length,.str nm,.sl (m6.map Fg.d),.sl lk,.sl cs] Q
 |[],V,hp,out,ho,K=>by
  have hl:=nG hp;exact wr Y<|Wp.dF (ds:=[jD V.length,jD Co.length]) rfl ai a0B<|wo Y (az (xm _))<|b_ Y (nm3 hf hj m6 [] rfl (by simp at ho;omega) K)
 |a::aa,V,hp,out,ho,K=>by
  have hl:=l6 hp;have ao:(Co.map Vr.r)[V.length]? =some a.r:=qY hp;rw[xi] at ho;have ih:=fun{out'} jo=>nm2 (i:=i) (s:=s) (nm:=nm) (L:=L) (lk:=lk) (cs:=cs) hv hf (j:=j) (n:=n) hj (Q:=Q) aa (V++[a]) (lH hp) (out:=out') jo
  rw[xa] at ih;obtain⟨vn,vt,vi⟩:=a;have K:Rn F X 149 1 [jD i,.sl (fe (eo (eo out (((if vn=s then[V.length] else[])++mt s (V.length+1) (aa.map (·.name))).map fun k=>⟨1,(i:Nat),(k:Nat)⟩)) ((mt s 0 (m6.map (·.name))).map fun k=>⟨4,(k:Nat),0⟩))),.sl L,jD n,jD (j+1),.str nm,.sl (m6.map Fg.d),.sl lk,.sl cs] Q:=K;refine wr Y<|Wp.dO (ds:=[jD V.length,jD Co.length]) rfl ai a0B<|wo Y (aA ao Y)<|Wp.aV (l:=[.str vn,Fl.iD vt,Fl.iD vi]) rfl rfl rfl<|d_ (ds:=[.str vn,.str s]) rfl jE (fun e=> ?_) (fun e=> ?_)
  ·rw[i_ e] at K;have:=Pa (n:=⟨1,(i:Nat),(V.length:Nat)⟩) (l:=out);exact wl Y (za a0B ⟨1,(i:Nat),(V.length:Nat)⟩) rfl<|wo Y oA<|b_ Y (ih (out':=ra out ⟨1,(i:Nat),(V.length:Nat)⟩) a0B K)
  ·rw[j_ e] at K;exact wo Y oA<|b_ Y (ih a0B K)
end
section
variable{X:a0a}{ar:a0f}{x:Cx}
theorem Xj{l:a0s}{s:aq}{v:Nat}:cw l s=some v->s∈l:=by
 induction l generalizing v with
 |nil=>exact fun h=>nomatch h
 |cons a l ih=>
  intro h;have h:(if a=s then some 0 else(cw l s).map (· +1))=some v:=h;split at h
  ·rename_i e;exact e▸xn
  ·obtain⟨w,h1,_⟩:=xp.1 h;exact xo _ (ih h1)
theorem be6(hx:eM ar x){s:aq}(h:s∈x.vn):∃c k,s=nm c k/\(c=120\/c=98\/c=116)/\k<3:=by
 obtain⟨_,ints,tables,al,h1,h2,h3,h4,h5,h6,h7,h8,h9⟩:=hx.f.comps _ _ hx.c;unfold Cx.vn at h;rw[h5,List.map_append,List.map_cons,xF,xG,List.map_map,List.map_map] at h;rcases h with h|rfl|h
 ·obtain⟨k,hk,rfl⟩:=xJ.1 h;exact⟨120,k,rfl,.inl Y,by have:=List.mem_range.1 hk;omega⟩
 ·exact⟨98,0,rfl,.inr (.inl Y),a0B⟩
 ·obtain⟨k,hk,rfl⟩:=xJ.1 h;exact⟨116,k,rfl,.inr (.inr Y),by have:=List.mem_range.1 hk;omega⟩
theorem bq8(hx:eM ar x):x.vn.Nodup:=by
 obtain⟨_,ints,tables,al,h1,h2,h3,h4,h5,h6,h7,h8,h9⟩:=hx.f.comps _ _ hx.c;have e:x.vn=aP 120 ints++nm 98 0::aP 116 tables:=by
  unfold Cx.vn aP;rw[h5,List.map_append,List.map_cons,List.map_map,List.map_map];rfl
 have key:∀a≤3,∀b≤1,(aP 120 a++nm 98 0::aP 116 b).Nodup:=a0I
 rw[e];exact key ints h2 tables h3
theorem bx1(hx:eM ar x):x.fn.Nodup:=by
 have hf:=hx.f.flags;have e:x.fn=aP 102 x.f.flags.length:=by
  unfold Cx.fn;refine List.ext_getElem? fun k=> ?_
  rw[aP,xx,xx];by_cases hk:k<x.f.flags.length
  ·rw[xc hk,List.getElem?_range hk];exact congrArg some (hf.2 k _ (xc hk))
  ·rw[List.getElem?_eq_none a0B,List.getElem?_eq_none (by rw[List.length_range];omega)];rfl
 rw[e];exact WA a0B a0B
theorem bk7(hx:eM ar x){s:aq}(h:s∈x.fn):∃k,k<2/\s=nm 102 k:=by
 obtain⟨g,hg,rfl⟩:=xJ.1 h;obtain⟨k,hk⟩:=qI hg;have:=(xe.1 hk).1;have:=hx.f.flags.1;exact⟨k,a0B,hx.f.flags.2 k g hk⟩
theorem bs3(hx:eM ar x)(s:aq):rN x s=((mt s 0 x.vn).map fun k=>(⟨1,(x.i:Nat),(k:Nat)⟩:Nd))++(mt s 0 x.fn).map fun k=>(⟨4,(k:Nat),0⟩:Nd):=by
 rw[QA (bq8 hx),QA (bx1 hx)];unfold rN;cases hv:cw x.vn s with
 |some v=>
  cases hf:cw x.fn s with
  |some k=>
   obtain⟨c,j,e1,e2,e3⟩:=be6 hx (Xj hv);obtain⟨q,e4,e5⟩:=bk7 hx (Xj hf);have:=(rS a0B a0B a0B a0B (e1.symm.trans e5)).1;omega
  |none=>rfl
 |none=>
  cases hf:cw x.fn s with
  |some k=>rfl
  |none=>rfl
theorem W1(l a b:a0m):eo (eo l a) b=eo l (a++b):=(List.foldl_append ..).symm
theorem Zm(hx:eM ar x)(s:aq):(rN x s).length<=1:=by
 unfold rN;split
 ·exact xk _
 ·split
  ·exact xk _
  ·exact xL _
def mU(x:Cx)(L:a0s):a0m:=L.flatMap (rN x)
theorem nm1(hx:eM ar x){L:a0s}(hl:L.length<=500000):∀(aa V:a0s),L=V++aa->∀{out:a0m},uk out->out.length<=V.length->
 Rn F X 149 1 [jD x.i,.sl (fe out),.sl (strs L),jD L.length,jD V.length,.str x.f.name,.sl (x.f.flags.map Fg.d),.sl (x.f.links.map Lk.d),.sl (x.f.comps.map Cm.r)] (·=[.sl (fe (eo out (mU x aa)))])
 |[],V,hp,out,hA,ho=>by
  have hl:=nG hp;exact wr Y<|wn Y ai<|wt Y Y
 |s::aa,V,hp,out,hA,ho=>by
  have aW:=l6 hp;have ao:(strs L)[V.length]? =some [.str s]:=qY hp;have ji:(x.f.comps.map Cm.r)[x.i]? =some x.cm.r:=by rw[xx,hx.c];rfl
  have hf:=hx.f.flags.1;obtain⟨q1,q2,q3⟩:=GL (rN x s) out hA;have:=Zm hx s;have ih:=nm1 hx hl aa (V++[s]) (lH hp) (out:=eo out (rN x s)) q1 (by rw[xa,List.length_singleton];omega);rw[xa,W1] at ih;have ih:Rn F X 149 1 [jD x.i,.sl (fe (eo out (rN x s))),.sl (strs L),jD L.length,jD (V.length+1),.str x.f.name,.sl (x.f.flags.map Fg.d),.sl (x.f.links.map Lk.d),.sl (x.f.comps.map Cm.r)] (·=[.sl (fe (eo out (mU x (s::aa))))]):=ih;rw[show mU x (s::aa)=rN x s++mU x aa from Y] at ih;rw[show eo out (rN x s)=eo (eo out ((mt s 0 x.vn).map fun k=>(⟨1,(x.i:Nat),(k:Nat)⟩:Nd))) ((mt s 0 x.fn).map fun k=>(⟨4,(k:Nat),0⟩:Nd)) by rw[W1,<-bs3 hx]] at ih;have st:=nm2 (X:=X) (i:=x.i) (s:=s) (nm:=x.f.name) (L:=strs L) (lk:=x.f.links.map Lk.d) (cs:=x.f.comps.map Cm.r) (Dj hx) hf (j:=V.length) (n:=L.length) a0B x.cm.vars [] rfl (out:=out) (by have:=Dj hx;omega) ih;exact wr Y<|wy Y ai<|wo Y (aA ao Y)<|wg 1 Y<|wo Y (aA ji rfl)<|wg 2 Y<|wo Y (az (xm _))<|wj st
theorem OD(hx:eM ar x){L:a0s}(hl:L.length<=500000):Rn F X 149 0 (x.f.r++[jD x.i,.sl (strs L)]) (·=[.sl (fe (eo [] (mU x L)))]):=by
 exact wr Y<|wo Y (az (lA _))<|b_ Y (nm1 hx hl L [] rfl (out:=[]) .nil (xk _))
end
end Go.Proofs.YthicpeihkkokmaaGreatDoor
namespace Go.Fl
def Ur.len(u:Ur):Nat:=u.R.length+u.W.length+u.S.length+u.T.length
def Ur.im(u:Ur)(uz:List Us):Ur:=uz.foldl Ur.add u
theorem Ur.ux(u:Ur)(a b:List Us):u.im (a++b)=(u.im a).im b:=List.foldl_append ..
theorem Ur.A5(u:Ur)(uz:List Us):(u.im uz).len<=u.len+uz.length:=(Ur.TT uz u).n
end Go.Fl
namespace Go.Proofs.YthicpeihkkokmaaGreatDoor
open Go.Ex Go.RowKit Go.Sort Go.Fl
section
variable{X:a0a}
theorem Eb{l:a0s}(hl:l.length<=1000000)(s:aq):aL (.app 1 16) [.sl (strs l),.sl [[.str s]]]=some (.sl (strs (l++[s]))):=by
 rw[gD (es:=1) (row:=[.str s]) rfl rfl (by rw[lA];omega) (by rw[lA];omega)];unfold strs;rw[List.map_append];rfl
theorem aJ9{e:Fl.Ex}(he:jK gV e):∀{u:Ur},u.len+e.sz<=1000000->Rn F X 144 0 (u.d++e.r) (·=(u.im (Ex.us e)).d):=by
 induction he with
 | @mk op name n args hn ha ih=>
  intro u hu;obtain⟨h1,h2,h3,h4,h5⟩:=hn.get;have ek:jM op<=2:=by unfold jM;split<;>(try split)<;>omega
  have loop:∀(aa V:List Fl.Ex),args=V++aa->∀{u:Ur},u.len+Ex.fT aa<=1000000->Rn F X 144 1 ([.sl (Ex.rs args),jD args.length,jD V.length]++u.d) (·=(u.im (Ex.fm aa)).d):=by
   intro aa
   induction aa with
   |nil=>
    intro V hp u hu;have hl:=nG hp;exact wr Y<|wn Y ai<|wt Y Y
   |cons a aa dT=>
    intro V hp u hu;have hl:=l6 hp;have ao:(Ex.rs args)[V.length]? =some a.r:=by rw[hp];exact KH _ _ _
    have hu:u.len+(a.sz+Ex.fT aa)<=1000000:=hu;have c:=ih a (by rw[hp];simp) (u:=u) a0B;have n1:=u.A5 (Ex.us a);have n3:=Ex.DR a;have n2:=dT (V++[a]) (lH hp) (u:=u.im (Ex.us a)) a0B;rw[xa,<-Ur.ux] at n2;obtain⟨Fp,Ee,n',args'⟩:=a;exact wr Y<|wy Y ai<|wo Y (aA ao Y)<|wg 1 Y<|wl Y c rfl<|wo Y oA<|wj n2
  have hu:u.len+(Ex.fT args+1)<=1000000:=hu;refine wr Y ?_;rw[Ex.us,Ur.ux];refine d_ (ds:=[.str name,.str []]) rfl aX3 (fun e=> ?_) (fun e=> ?_)
  ·rw[j_ e];have hR:u.R.length<=1000000:=by unfold Ur.len at hu;omega
   refine wg 2 Y<|wo Y (Eb hR name) ?_;have:=loop args [] rfl (u:=u.add (.rd name)) (by show(u.R++[name]).length+u.W.length+u.S.length+u.T.length+Ex.fT args<=_;unfold Ur.len at hu;rw[xa,List.length_singleton];omega);exact wo Y (az (rR _))<|wj this
  ·rw[i_ (Decidable.of_not_not e)];exact wo Y (az (rR _))<|b_ Y (loop args [] rfl a0B)
theorem Z'{S:a0p}(hS:S.length<=1000000)(s:St):∃rows,aL (.app 6 112) [.sl (St.rs S),.sl [[Fl.iD 0,.str [],.str [],.sl [],.sl [],.sl []]]]=some (.sl rows)/\aL .jf [.sl rows,jD S.length]=some (.bool true)/\aL (.ky 0) (.sl rows::jD S.length::s.r)=some (.sl (St.rs (S++[s]))):=by
 refine⟨St.rs S++[[Fl.iD 0,.str [],.str [],.sl [],.sl [],.sl []]],gD (es:=6) rfl rfl (by rw[nX];omega) (by rw[nX];omega),?_,?_⟩
 ·rw[qH (n:=S.length+1) (by rw[xa,nX];rfl),u_ (Nat.lt_succ_self _)]
 ·rw[Ba (r:=[Fl.iD 0,.str [],.str [],.sl [],.sl [],.sl []]) (by rw[xq (by rw[nX];exact xk _),nX,Nat.sub_self];rfl) (by obtain⟨_,_,_,_,_,_⟩:=s;rfl),List.set_append_right _ _ (by rw[nX];exact xk _),nX,Nat.sub_self,<-OX];rfl
theorem be7{k:Nat}{n h:aq}{es:List Fl.Ex}{th el:a0p}{u:Ur}(hu:u.len+3<=1000000){L:a0b}{ln j ne:Nat}(hj:j<=1000000){Q:a0d->Prop}{u2 u3:Ur}
 (T1:Rn F X 145 0 ((u.im (c8 (.mk k n h es th el) n k)).d++[.sl (St.rs th)]) (·=u2.d)) (T2:Rn F X 145 0 (u2.d++[.sl (St.rs el)]) (·=u3.d)) (K:Rn F X 145 1 ([.sl L,jD ln,jD (j+1)]++u3.d) Q):
 Wp F X 145 aV8 ([.sl L,jD ln,jD j,.sl (Ex.rs es),jD ne,jD ne]++u.d++[Fl.iD k,.str n,.str h,.sl (St.rs th),.sl (St.rs el)]) Q:=by
 have hR:u.R.length<=1000000:=by unfold Ur.len at hu;omega
 have hW:u.W.length<=1000000:=by unfold Ur.len at hu;omega
 have hS:u.S.length<=1000000:=by unfold Ur.len at hu;omega
 have hT:u.T.length<=1000000:=by unfold Ur.len at hu;omega
 have two:k=2\/k=3->Wp F X 145 (.note ⟨.own 0,[],J⟩ aV9) ([.sl L,jD ln,jD j,.sl (Ex.rs es),jD ne,jD ne]++u.d++[Fl.iD k,.str n,.str h,.sl (St.rs th),.sl (St.rs el)]) Q:=fun hk=>by
  have T1:Rn F X 145 0 ((u.im [.rd n,.wr n]).d++[.sl (St.rs th)]) (·=u2.d):=by rcases hk with rfl|rfl<;>exact T1
  refine wg 2 Y<|wo Y (Eb hR n)<|wg 2 Y<|wo Y (Eb hW n)<|wg 1 Y ?_;dsimp only [Ur.d,c_,n_];refine wL Y T1 rfl<|wg 1 Y ?_;dsimp only [Ur.d,c_,n_];exact wL Y T2 rfl<|wo Y oA<|wj K
 refine d_ (ds:=[Fl.iD k,Fl.iD 1]) rfl ay (fun e=> ?_) (fun e1=> ?_)
 ·obtain rfl:k=1:=a0B
  refine wg 2 Y<|wo Y (Eb hW n)<|wg 1 Y ?_;dsimp only [Ur.d,c_,n_];refine wL Y T1 rfl<|wg 1 Y ?_;dsimp only [Ur.d,c_,n_];exact wL Y T2 rfl<|wo Y oA<|wj K
 refine d_ (ds:=[Fl.iD k,Fl.iD 2]) rfl ay (fun e=>two a0B) (fun e2=> ?_);refine d_ (ds:=[Fl.iD k,Fl.iD 3]) rfl ay (fun e=>two a0B) (fun e3=> ?_);clear two;refine d_ (ds:=[Fl.iD k,Fl.iD 6]) rfl ay (fun e=> ?_) (fun e6=> ?_)
 ·obtain rfl:k=6:=a0B
  obtain⟨rows,a1,a2,a3⟩:=Z' hS (.mk 6 n h es th el);refine wo Y (az (nX _))<|wg 2 Y<|wo Y a1<|Wp.nV Y a2<|wo Y a3<|wg 1 Y ?_;dsimp only [Ur.d,c_,n_];refine wL Y T1 rfl<|wg 1 Y ?_;dsimp only [Ur.d,c_,n_];exact wL Y T2 rfl<|wo Y oA<|wj K
 refine d_ (ds:=[Fl.iD k,Fl.iD 7]) rfl ay (fun e=> ?_) (fun e7=> ?_)
 ·obtain rfl:k=7:=a0B
  obtain⟨rows,a1,a2,a3⟩:=Z' hT (.mk 7 n h es th el);refine wo Y (az (nX _))<|wg 2 Y<|wo Y a1<|Wp.nV Y a2<|wo Y a3<|wg 1 Y ?_;dsimp only [Ur.d,c_,n_];refine wL Y T1 rfl<|wg 1 Y ?_;dsimp only [Ur.d,c_,n_];exact wL Y T2 rfl<|wo Y oA<|wj K
 refine d_ (ds:=[Fl.iD k,Fl.iD 8]) rfl ay (fun e=> ?_) (fun e8=> ?_)
 ·obtain rfl:k=8:=a0B
  refine wl Y T1 rfl<|wg 1 Y ?_;dsimp only [Ur.d,c_,n_];exact wL Y T2 rfl<|wo Y oA<|wj K
 refine d_ (ds:=[Fl.iD k,Fl.iD 9]) rfl ay (fun e=> ?_) (fun e9=> ?_)
 ·obtain rfl:k=9:=a0B
  refine wg 2 Y<|wo Y (Eb hR n)<|wg 2 Y<|wo Y (Eb hW n)<|wg 1 Y ?_;dsimp only [Ur.d,c_,n_];refine wL Y T1 rfl<|wg 1 Y ?_;dsimp only [Ur.d,c_,n_];exact wL Y T2 rfl<|wo Y oA<|wj K
 have T1:Rn F X 145 0 (u.d++[.sl (St.rs th)]) (·=u2.d):=by
  have e:c8 (.mk k n h es th el) n k=[]:=by
   unfold c8;split<;>first|omega|rfl
  rw[e] at T1;exact T1
 refine wl Y T1 rfl<|wg 1 Y ?_;dsimp only [Ur.d,c_,n_];exact wL Y T2 rfl<|wo Y oA<|wj K
theorem aK0{l:a0p}(hl:l.length<=12)(h:∀s∈l,dM jR s):∀{u:Ur},u.len+200*St.ns l<=900000->Rn F X 145 0 (u.d++[.sl (St.rs l)]) (·=(u.im (St.fw l)).d):=by
 revert hl
 have:∀s∈l,dM (fun s=>jR s/\dM jR s) s:=fun s hs=>by
  have:=h s hs;clear h hs
  induction this with
  |mk h h1 h2 i1 i2=>exact .mk ⟨h,.mk h h1 h2⟩ i1 i2
 refine dM.fx (P:=fun l=>l.length<=12->∀{u:Ur},u.len+200*St.ns l<=900000->Rn F X 145 0 (u.d++[.sl (St.rs l)]) (·=(u.im (St.fw l)).d)) ?_ this;clear this h l;intro l h hl u hu;have loop:∀(aa V:a0p),l=V++aa->∀{u:Ur},u.len+200*St.ns aa<=900000->Rn F X 145 1 ([.sl (St.rs l),jD l.length,jD V.length]++u.d) (·=(u.im (St.fw aa)).d):=by
  intro aa
  induction aa with
  |nil=>
   intro V hp u hu;have hl:=nG hp;exact wr Y<|wn Y ai<|wt Y Y
  |cons a aa cX=>
   intro V hp u hu;have aD:=l6 hp;have ao:(St.rs l)[V.length]? =some a.r:=by rw[hp];exact J7 _ _ _
   obtain⟨⟨ha,hA⟩,hs⟩:=h a (by rw[hp];simp);have aQ:=(DR hA).2;have hu:u.len+200*(a.n+St.ns aa)<=900000:=hu;have next:=fun{u':Ur} Uq=>cX (V++[a]) (lH hp) (u:=u') Uq
   rw[xa] at next;obtain⟨k,n,hd,es,th,el⟩:=a;have ha:Ey k n hd es th el:=ha;obtain⟨df,cL⟩:=hs;have fX:es.length<=3:=by have:=ha.ln;omega
   have h3:=XY (.mk k n hd es th el) n k;cases hA with
   |mk _ li bH4=>
   have lt:=(uv li).2;have ll:=(uv bH4).2;have aS:Ex.fT es<=189:=by
    have h1:=Ex.Y9 fun a hm=>(ha.ex a hm).1.M2 (ha.ex a hm).2
    have h4:es.length*63<=3*63:=xD _ a0B;omega
   simp only [St.n] at hu;have Bt:∀(bX bj:List Fl.Ex),es=bj++bX->∀{u:Ur},u.len+Ex.fT bX+3+200*(St.ns th+St.ns el+St.ns aa)<=900000->Rn F X 145 2 ([.sl (St.rs l),jD l.length,jD V.length,.sl (Ex.rs es),jD es.length,jD bj.length]++u.d++[Fl.iD k,.str n,.str hd,.sl (St.rs th),.sl (St.rs el)]) (·=(u.im (Ex.fm bX++(c8 (.mk k n hd es th el) n k++(St.fw th++(St.fw el++St.fw aa))))).d):=by
    intro bX
    induction bX with
    |nil=>
     intro bj aO u hu;rw[xj] at aO;subst aO;have hu:u.len+0+3+200*(St.ns th+St.ns el+St.ns aa)<=900000:=hu;have n1:=u.A5 (c8 (.mk k n hd es th el) n k);have n2:=(u.im (c8 (.mk k n hd es th el) n k)).A5 (St.fw th);have n3:=((u.im (c8 (.mk k n hd es th el) n k)).im (St.fw th)).A5 (St.fw el);refine wr Y<|wn Y ai ?_;have K:=next (u':=((u.im (c8 (.mk k n hd es th el) n k)).im (St.fw th)).im (St.fw el)) a0B;rw[<-Ur.ux,<-Ur.ux,<-Ur.ux] at K;refine be7 a0B a0B (df ha.tl (u:=u.im (c8 (.mk k n hd es th el) n k)) a0B) (cL ha.ll (u:=(u.im (c8 (.mk k n hd es th el) n k)).im (St.fw th)) a0B) ?_;rw[<-Ur.ux,<-Ur.ux];rw[a_ (c8 (.mk k n hd es th el) n k),a_ (St.fw th)] at K;exact K
    |cons e bX dT=>
     intro bj aO u hu;have s8:=l6 aO;have ji:(Ex.rs es)[bj.length]? =some e.r:=by rw[aO];exact KH _ _ _
     have hu:u.len+(e.sz+Ex.fT bX)+3+200*(St.ns th+St.ns el+St.ns aa)<=900000:=hu;have n1:=u.A5 (Ex.us e);have n2:=Ex.DR e;have c:=aJ9 (X:=X) (ha.ex e (by rw[aO];simp)).1 (u:=u) a0B;have ze:=dT (bj++[e]) (lH aO) (u:=u.im (Ex.us e)) a0B;rw[xa,<-Ur.ux] at ze;rw[show Ex.fm (e::bX)++(c8 (.mk k n hd es th el) n k++(St.fw th++(St.fw el++St.fw aa)))=Ex.us e++(Ex.fm bX++(c8 (.mk k n hd es th el) n k++(St.fw th++(St.fw el++St.fw aa)))) from a_ ..];obtain⟨Fp,Ee,n',args'⟩:=e;refine wr Y<|wy Y ai<|wo Y (aA ji rfl)<|wg 2 Y ?_;dsimp only [Ur.d,c_,n_];refine wL Y c rfl ?_;dsimp only [Ur.d,c_,n_];exact wo Y oA<|wj ze
   refine wr Y<|wy Y ai<|wo Y (aA ao Y)<|wg 1 Y ?_;have e4:St.fw (⟨k,n,hd,es,th,el⟩::aa)=Ex.fm es++(c8 (.mk k n hd es th el) n k++(St.fw th++(St.fw el++St.fw aa))):=by
    simp only [St.fw,St.ur,a_]
   rw[e4];exact wo Y (az (rR _))<|b_ Y (Bt es [] rfl a0B)
 exact wr Y<|wo Y (az (nX _))<|wj (loop l [] rfl hu)
def rm(vs:a0y)(s:aq):List Us:=vs.flatMap fun v=>v.flatMap fun h=>if h.name=s then St.fw h.body else[]
def HZ(v:List Hn)(s:aq):List Us:=v.flatMap fun h=>if h.name=s then St.fw h.body else[]
structure HnU (h:Hn):Prop where
 ss:∀s∈h.body,dM jR s
 l:h.body.length<=12
 n:St.ns h.body<=12
theorem ah1{s:aq}{vr:a0b}{n i:Nat}(hi:i<=100){hs:List Hn}(hl:hs.length<=100){Q:a0d->Prop}:∀(aa V:List Hn),hs=V++aa->(∀h∈aa,HnU h)->∀{u:Ur},u.len+2400*aa.length<=800000->
 Rn F X 146 1 ([.str s,.sl vr,jD n,jD (i+1)]++(u.im (HZ aa s)).d) Q->
 Rn F X 146 2 ([.str s,.sl vr,jD n,jD i,.sl (hs.map Hn.r),jD hs.length,jD V.length]++u.d) Q
 |[],V,hp,_,u,hu,K=>by
  have aW:=nG hp;exact wr Y<|wn Y ai<|wo Y oA<|wj K
 |a::aa,V,hp,hh,u,hu,K=>by
  have aW:=l6 hp;have ao:(hs.map Hn.r)[V.length]? =some a.r:=qY hp;have ha:=hh a xn;have han:=ha.n;have hb:=(uv ha.ss).2;rw[xi] at hu;have n1:=u.A5 (St.fw a.body);have ih:=fun{u':Ur} Uq=>ah1 (s:=s) (vr:=vr) (n:=n) hi hl (Q:=Q) aa (V++[a]) (lH hp) (fun h hm=>hh h (xo _ hm)) (u:=u') Uq
  rw[xa] at ih;have K:Rn F X 146 1 ([.str s,.sl vr,jD n,jD (i+1)]++(u.im ((if a.name=s then St.fw a.body else[])++HZ aa s)).d) Q:=K;rw[Ur.ux] at K;obtain⟨an,ap,ab⟩:=a;have c:=aK0 (X:=X) ha.l ha.ss (u:=u) a0B;refine wr Y<|wy Y ai<|wo Y (aA ao Y)<|wg 1 Y<|d_ (ds:=[.str an,.str s]) rfl jE (fun e=> ?_) (fun e=> ?_)
  ·rw[i_ e] at K;refine wg 1 Y ?_;dsimp only [Ur.d,c_,n_];refine wL Y c rfl ?_;dsimp only [Ur.d,c_,n_];exact wo Y oA<|b_ Y (ih (u':=u.im (St.fw ab)) (by simp only at n1 hb han;omega) K)
  ·rw[j_ e] at K;exact wo Y oA<|b_ Y (ih a0B K)
theorem ah2{s:aq}{vs:a0y}(hl:vs.length<=100):∀(aa V:a0y),vs=V++aa->(∀v∈aa,v.length<=3/\∀h∈v,HnU h)->∀{u:Ur},u.len+7200*aa.length<=800000->
 Rn F X 146 1 ([.str s,.sl (pI vs),jD vs.length,jD V.length]++u.d) (·=(u.im (rm aa s)).d)
 |[],V,hp,_,u,hu=>by
  have aW:=nG hp;exact wr Y<|wn Y ai<|wt Y Y
 |a::aa,V,hp,hh,u,hu=>by
  have aW:=l6 hp;have ao:(pI vs)[V.length]? =some [.sl (a.map Hn.r)]:=qY hp;obtain⟨h1,h2⟩:=hh a xn;rw[xi] at hu;have lu:(HZ a s).length<=a.length*2400:=qA fun h hm=>by
   have:=h2 h hm;have h3:=(uv this.ss).2;have h4:=this.n;split
   ·omega
   ·exact xL _
  have n1:=u.A5 (HZ a s);have ih:=ah2 (s:=s) hl aa (V++[a]) (lH hp) (fun v h=>hh v (xo _ h)) (u:=u.im (HZ a s)) a0B;rw[xa,<-Ur.ux] at ih;refine wr Y<|wy Y ai<|wo Y (aA ao Y)<|wg 1 Y<|wo Y (az (xm _))<|b_ Y (ah1 (hs:=a) a0B a0B a [] rfl h2 a0B ?_);exact ih
def u0:Ur:=⟨[],[],false,[],[]⟩
theorem be9{ar:a0f}{x:Cx}(hx:eM ar x)(s:aq):Rn F X 146 0 (x.cm.r++[.str s]) (·=(u0.im (rm x.cm.aT s)).d):=by
 obtain⟨_,ints,tables,al,h1,h2,h3,h4,h5,h6,h7,h8,h9⟩:=hx.f.comps _ _ hx.c;have aQ:=hx.f.jC al (xu h4);refine wr Y<|wo Y (az (xm _))<|b_ Y (ah2 (s:=s) (vs:=x.cm.aT) a0B x.cm.aT [] rfl (fun v hv=>⟨by have:=(h9 v hv).2.1;omega,fun h hh=> ?_⟩) (u:=u0) (by show 0+_<=_;omega));have hf:=D0 hx hv hh;exact⟨fun s hs=>(hf.ss s hs).mono fun s h=>h.1,xH (nj _) hf.n,hf.n⟩
end
def bB3(e:Nd×Nd):a0d:=e.1.q++e.2.q
def m7(es:a0i):a0b:=es.map bB3
section
variable{X:a0a}{ar:a0f}{x:Cx}
theorem Iu{es:a0i}(hl:es.length<=1000000)(fs:a0i)(hf:fs.length<=3):aL (.app 6 48) [.sl (m7 es),.sl (m7 fs)]=some (.sl (m7 (es++fs))):=by
 have l1:(m7 es).length=es.length:=xm _;have l2:(m7 fs).length=fs.length:=xm _;rw[Bb (fun row hr=> ?_) a0B a0B]
 ·unfold m7;rw[List.map_append]
 ·obtain⟨e,_,rfl⟩:=xJ.1 hr;exact⟨rfl,rfl⟩
theorem AP{ns:a0m}:(eo [] ns).length<=ns.length:=by
 have:=(GL ns [] .nil).2.2;rw[xd,Nat.zero_add] at this;exact this
theorem De(ns:a0m)(n:Nd):ra (eo [] ns) n=eo [] (ns++[n]):=by
 unfold eo;rw[List.foldl_append];rfl
abbrev NT(x:Cx)(ns:a0m)(es:a0i)(n:Nat)(hs:a0s)(k:Nat)(M:a0m)(q:Nat)(u:Ur):a0d:=[.sl (fe (eo [] ns)),.sl (m7 es),jD x.i,.sl (x.f.comps.map Cm.r),jD n,.sl (strs hs),jD hs.length,jD k,.sl (fe M),jD M.length,jD q,.str x.f.name,.sl (x.f.flags.map Fg.d),.sl (x.f.links.map Lk.d),.str x.cm.name,.sl (x.cm.vars.map Vr.r),.sl (pI x.cm.aT),.sl (strs u.R),.sl (strs u.W),.sl (St.rs u.S),.sl (St.rs u.T)]
abbrev NU(x:Cx)(ns:a0m)(es:a0i)(n:Nat)(hs:a0s)(k:Nat)(q:Nat)(u:Ur):a0d:=[.sl (fe (eo [] ns)),.sl (m7 es),jD x.i,.sl (x.f.comps.map Cm.r),jD n,.sl (strs hs),jD hs.length,jD k,.sl (St.rs u.S),jD u.S.length,jD q,.str x.f.name,.sl (x.f.flags.map Fg.d),.sl (x.f.links.map Lk.d),.str x.cm.name,.sl (x.cm.vars.map Vr.r),.sl (pI x.cm.aT),.sl (strs u.R),.sl (strs u.W),.sl (St.rs u.T)]
abbrev Vv(x:Cx)(ns:a0m)(es:a0i)(n:Nat)(hs:a0s)(k:Nat)(q:Nat)(u:Ur):a0d:=[.sl (fe (eo [] ns)),.sl (m7 es),jD x.i,.sl (x.f.comps.map Cm.r),jD n,.sl (strs hs),jD hs.length,jD k,.sl (St.rs u.T),jD u.T.length,jD q,.str x.f.name,.sl (x.f.flags.map Fg.d),.sl (x.f.links.map Lk.d),.str x.cm.name,.sl (x.cm.vars.map Vr.r),.sl (pI x.cm.aT)]
abbrev NV(x:Cx)(ns:a0m)(es:a0i)(n:Nat)(hs:a0s)(k:Nat):a0d:=[.sl (fe (eo [] ns)),.sl (m7 es),jD x.i,.sl (x.f.comps.map Cm.r),jD n,.sl (strs hs),jD hs.length,jD k,.str x.f.name,.sl (x.f.flags.map Fg.d),.sl (x.f.links.map Lk.d),.str x.cm.name,.sl (x.cm.vars.map Vr.r),.sl (pI x.cm.aT)]
variable{Q:a0d->Prop}{ns:a0m}{n k:Nat}{hs:a0s}{u:Ur}
theorem g5(hx:eM ar x){h:Nat}(hh:h=5\/h=6)(hw:u.W.length<=500000){M:a0m}(hM:M.length<=900000):∀(aa V:a0m),M=V++aa->∀{es:a0i},es.length+M.length<=1000000+V.length->
 Rn F X 150 (h+2) (NT x ns (es++aa.map fun m=>(m,⟨5,(x.i:Nat),(k:Nat)⟩)) n hs k (eo [] (mU x u.W)) 0 u) Q->
 Rn F X 150 h (NT x ns es n hs k M V.length u) Q
 |[],V,hp,es,hb,K=>by
  have hl:=nG hp;rw[List.map_nil,xj] at K;rcases hh with rfl|rfl<;>exact Rn.of (fd:=pu) rfl rfl rfl rfl (Wp.dF (ds:=[jD V.length,jD M.length]) rfl ai a0B (Wp.note (Wp.jU Y (OD hx hw) rfl (e_ Y (az (vX _)) rfl (b_ Y K)))))
 |a::aa,V,hp,es,hb,K=>by
  have hl:=l6 hp;have ih:=g5 hx hh hw hM aa (V++[a]) (lH hp) (es:=es++[(a,⟨5,(x.i:Nat),(k:Nat)⟩)]) (by rw[xa,xa];show _+1+_<=_+(_+1);omega) (by rw[a_];exact K);rw[xa] at ih;rcases hh with rfl|rfl<;>exact Rn.of (fd:=pu) rfl rfl rfl rfl (Wp.dO (ds:=[jD V.length,jD M.length]) rfl ai a0B (e_ Y (aA (Ch hp) rfl) rfl (Wp.aV (l:=a.q) rfl rfl rfl (Wp.note (e_ (d:= .sl (m7 [(a,⟨5,(x.i:Nat),(k:Nat)⟩)])) rfl rfl rfl (e_ Y (Iu a0B _ (Nat.le_add_left 1 2)) rfl (e_ Y (bm (b:=1) a0B) rfl (b_ Y ih))))))))
def dN(x:Cx)(u:Ur):a0m:=if u.D then[⟨2,(x.i:Nat),0⟩] else[]
def dE(x:Cx)(o:Nd)(u:Ur):a0i:=if u.D then[(⟨2,(x.i:Nat),0⟩,o),(o,⟨2,(x.i:Nat),0⟩)] else[]
theorem g7{h:Nat}(hh:h=7/\u.D=true\/h=8/\u.D=false)(hN:ns.length<=1000000){M:a0m}(hM:M.length<=900000):∀(aa V:a0m),M=V++aa->∀{es:a0i},es.length+M.length<=900000+V.length->
 Rn F X 150 (h+2) (NU x (ns++dN x u) (es++((aa.filter fun m=>m.k=1).map (fun m=>((⟨5,(x.i:Nat),(k:Nat)⟩:Nd),m))++dE x ⟨5,(x.i:Nat),(k:Nat)⟩ u)) n hs k 0 u) Q->
 Rn F X 150 h (NT x ns es n hs k M V.length u) Q
 |[],V,hp,es,hb,K=>by
  have hl:=nG hp;unfold dN dE at K;rw[List.filter_nil,List.map_nil,n_] at K;rcases hh with⟨rfl,hd⟩|⟨rfl,hd⟩
  ·unfold NU at K;rw[hd,i_ Y,i_ Y,<-De] at K;have:=AP (ns:=ns);refine Rn.of (fd:=pu) rfl rfl rfl rfl (Wp.dF (ds:=[jD V.length,jD M.length]) rfl ai a0B (Wp.note (Wp.jU Y (za a0B ⟨2,(x.i:Nat),0⟩) rfl (Wp.note ?_))));exact e_ (d:= .sl (m7 [(⟨2,(x.i:Nat),0⟩,⟨5,(x.i:Nat),(k:Nat)⟩),(⟨5,(x.i:Nat),(k:Nat)⟩,⟨2,(x.i:Nat),0⟩)])) rfl rfl rfl<|wo Y (Iu a0B _ (Nat.le_add_left 2 1))<|wo Y (az (nX _))<|wj K
  ·rw[hd,j_ Bool.noConfusion,j_ Bool.noConfusion,xj,xj] at K;exact Rn.of (fd:=pu) rfl rfl rfl rfl (Wp.dF (ds:=[jD V.length,jD M.length]) rfl ai a0B (e_ Y (az (nX _)) rfl (b_ Y K)))
 |a::aa,V,hp,es,hb,K=>by
  have hl:=l6 hp;have ih:=fun{es'} he K'=>g7 hh hN hM aa (V++[a]) (lH hp) (es:=es') he K'
  rw[xa] at ih;have hd:h=7\/h=8:=a0B
  by_cases ha:a.k=1
  ·have ih:=ih (es':=es++[(⟨5,(x.i:Nat),(k:Nat)⟩,a)]) (by rw[xa];show _+1+_<=_+(_+1);omega) (by rw[List.filter_cons_of_pos (by simpa using ha)] at K;rw[a_];exact K);clear hh;rcases hd with rfl|rfl<;>exact Rn.of (fd:=pu) rfl rfl rfl rfl (Wp.dO (ds:=[jD V.length,jD M.length]) rfl ai a0B (e_ Y (aA (Ch hp) rfl) rfl (Wp.aV (l:=a.q) rfl rfl rfl (Wp.dO (ds:=[.int .i64 a.k,.int .i64 1]) rfl ay ha (Wp.note (e_ (d:= .sl (m7 [(⟨5,(x.i:Nat),(k:Nat)⟩,a)])) rfl rfl rfl (e_ Y (Iu a0B _ (Nat.le_add_left 1 2)) rfl (e_ Y (bm (b:=1) a0B) rfl (b_ Y ih)))))))))
  ·have ih:=ih (es':=es) (by show _+_<=_+(_+1);omega) (by rw[List.filter_cons_of_neg (by simpa using ha)] at K;exact K);clear hh;rcases hd with rfl|rfl<;>exact Rn.of (fd:=pu) rfl rfl rfl rfl (Wp.dO (ds:=[jD V.length,jD M.length]) rfl ai a0B (e_ Y (aA (Ch hp) rfl) rfl (Wp.aV (l:=a.q) rfl rfl rfl (Wp.dF (ds:=[.int .i64 a.k,.int .i64 1]) rfl ay ha (e_ Y (bm (b:=1) a0B) rfl (b_ Y ih))))))
def ag5(ar:a0f)(x:Cx)(s:St):Prop:=∃d c j,x.f.comps[d]? =some c/\cw (x.f.comps.map (·.name)) s.nm=some d/\cw (gI ar d) s.hn=some j
def at5(ar:a0f)(x:Cx)(s:St):Prop:=∃j,cw (gI ar x.i) s.hn=some j
def sN(x:Cx)(s:St):Nd:=⟨6,(x.i:Nat),(cN x s.nm:Nat)⟩
def sE(ar:a0f)(x:Cx)(o:Nd)(s:St):a0i:=tR o (sN x s) (hN ar (cN x s.nm) s.hn)
def tE(ar:a0f)(x:Cx)(o:Nd)(s:St):a0i:=tR o ⟨3,(x.i:Nat),0⟩ (hN ar x.i s.hn)
theorem g9(hx:eM ar x){h:Nat}(hh:h=9\/h=10)(hu:u.S.length<=900000):∀(aa V:a0p),u.S=V++aa->(∀s∈aa,ag5 ar x s)->∀{ns:a0m} {es:a0i},ns.length+es.length+4*aa.length<=900000->
 Rn F X 150 11 (Vv x (ns++aa.map (sN x)) (es++aa.flatMap (sE ar x ⟨5,(x.i:Nat),(k:Nat)⟩)) n hs k 0 u) Q->
 Rn F X 150 h (NU x ns es n hs k V.length u) Q
 |[],V,hp,_,ns,es,hb,K=>by
  have hl:=nG hp;rw[List.map_nil,List.flatMap_nil,xj,xj] at K;rcases hh with rfl|rfl<;>exact Rn.of (fd:=pu) rfl rfl rfl rfl (Wp.dF (ds:=[jD V.length,jD u.S.length]) rfl ai a0B (e_ Y (az (nX _)) rfl (b_ Y K)))
 |a::aa,V,hp,ko,ns,es,hb,K=>by
  have hl:=l6 hp;rw[xi] at hb;obtain⟨d,c,j,h1,h2,h3⟩:=ko a xn;have ao:(St.rs u.S)[V.length]? =some a.r:=by rw[hp];exact J7 _ _ _
  have ji:(x.f.comps.map Cm.r)[d]? =some c.r:=by rw[xx,h1];rfl
  have e1:cN x a.nm=d:=by unfold cN;rw[h2];rfl
  have e2:sN x a=⟨6,(x.i:Nat),(d:Nat)⟩:=by unfold sN;rw[e1]
  have e3:sE ar x ⟨5,(x.i:Nat),(k:Nat)⟩ a=[(⟨5,(x.i:Nat),(k:Nat)⟩,⟨6,(x.i:Nat),(d:Nat)⟩),(⟨5,(x.i:Nat),(k:Nat)⟩,⟨5,(d:Nat),(j:Nat)⟩),(⟨6,(x.i:Nat),(d:Nat)⟩,⟨5,(d:Nat),(j:Nat)⟩)]:=by
   unfold sE;rw[e2,e1];unfold hN;rw[h3];rfl
  have hn:=hx.f.n;have hr:=Xf (X:=X) (x:=eK x (c,d)) ⟨hx.f,hx.p,hx.id,h1⟩ h3;have bu:=aM4 (X:=X) (f:=x.f) a0B h2;have al:=AP (ns:=ns);have ih:=g9 hx hh hu aa (V++[a]) (lH hp) (fun s hm=>ko s (xo _ hm)) (ns:=ns++[⟨6,(x.i:Nat),(d:Nat)⟩]) (es:=es++[(⟨5,(x.i:Nat),(k:Nat)⟩,⟨6,(x.i:Nat),(d:Nat)⟩),(⟨5,(x.i:Nat),(k:Nat)⟩,⟨5,(d:Nat),(j:Nat)⟩),(⟨6,(x.i:Nat),(d:Nat)⟩,⟨5,(d:Nat),(j:Nat)⟩)]) (by rw[xa,xa];show _+1+(_+3)+_<=_;omega) (by rw[<-e3,<-e2,a_,a_];exact K);unfold NU at ih;rw[xa,<-De] at ih;obtain⟨ak,an,ah,ae,Vm,Vo⟩:=a;obtain⟨cn,cv,cvs⟩:=c;rcases hh with rfl|rfl<;>(
   refine Rn.of (fd:=pu) rfl rfl rfl rfl (Wp.dO (ds:=[jD V.length,jD u.S.length]) rfl ai a0B (e_ Y (aA ao Y) rfl (Wp.aV (l:=[Fl.iD ak,.str an,.str ah,.sl (Ex.rs ae),.sl (St.rs Vm),.sl (St.rs Vo)]) rfl rfl rfl (Wp.note ?_))));dsimp only [c_,n_];refine wL Y bu rfl<|wo Y (aA ji rfl)<|Wp.aV (l:=[.str cn,.sl (cv.map Vr.r),.sl (pI cvs)]) rfl rfl rfl<|wg 1 Y ?_;dsimp only [c_,n_];refine wL Y hr rfl<|wl Y (za a0B ⟨6,(x.i:Nat),(d:Nat)⟩) rfl<|wg 1 Y ?_;dsimp only [c_,n_];exact e_ (d:= .sl (m7 [(⟨5,(x.i:Nat),(k:Nat)⟩,⟨6,(x.i:Nat),(d:Nat)⟩),(⟨5,(x.i:Nat),(k:Nat)⟩,⟨5,(d:Nat),(j:Nat)⟩),(⟨6,(x.i:Nat),(d:Nat)⟩,⟨5,(d:Nat),(j:Nat)⟩)])) rfl rfl rfl (e_ Y (Iu a0B _ (xk 3)) rfl (e_ Y (bm (b:=1) a0B) rfl (b_ Y ih))))
theorem g11(hx:eM ar x)(hu:u.T.length<=900000):∀(aa V:a0p),u.T=V++aa->(∀s∈aa,at5 ar x s)->k<=1000->∀{ns:a0m} {es:a0i},ns.length+es.length+4*aa.length<=900000->
 Rn F X 150 4 (NV x (ns++aa.map fun _=>(⟨3,(x.i:Nat),0⟩:Nd)) (es++aa.flatMap (tE ar x ⟨5,(x.i:Nat),(k:Nat)⟩)) n hs (k+1)) Q->
 Rn F X 150 11 (Vv x ns es n hs k V.length u) Q
 |[],V,hp,_,hk,ns,es,hb,K=>by
  have hl:=nG hp;rw[List.map_nil,List.flatMap_nil,xj,xj] at K;exact wr Y<|Wp.dF (ds:=[jD V.length,jD u.T.length]) rfl ai a0B<|wo Y oA<|wj K
 |a::aa,V,hp,ko,hk,ns,es,hb,K=>by
  have hl:=l6 hp;rw[xi] at hb;obtain⟨j,h3⟩:=ko a xn;have ao:(St.rs u.T)[V.length]? =some a.r:=by rw[hp];exact J7 _ _ _
  have e3:tE ar x ⟨5,(x.i:Nat),(k:Nat)⟩ a=[(⟨5,(x.i:Nat),(k:Nat)⟩,⟨3,(x.i:Nat),0⟩),(⟨5,(x.i:Nat),(k:Nat)⟩,⟨5,(x.i:Nat),(j:Nat)⟩),(⟨3,(x.i:Nat),0⟩,⟨5,(x.i:Nat),(j:Nat)⟩)]:=by
   unfold tE hN;rw[h3];rfl
  have hr:=Xf (X:=X) hx h3;have al:=AP (ns:=ns);have ih:=g11 hx hu aa (V++[a]) (lH hp) (fun s hm=>ko s (xo _ hm)) hk (ns:=ns++[⟨3,(x.i:Nat),0⟩]) (es:=es++[(⟨5,(x.i:Nat),(k:Nat)⟩,⟨3,(x.i:Nat),0⟩),(⟨5,(x.i:Nat),(k:Nat)⟩,⟨5,(x.i:Nat),(j:Nat)⟩),(⟨3,(x.i:Nat),0⟩,⟨5,(x.i:Nat),(j:Nat)⟩)]) (by rw[xa,xa];show _+1+(_+3)+_<=_;omega) (by rw[<-e3,a_,a_];exact K);unfold Vv at ih;rw[xa,<-De] at ih;obtain⟨ak,an,ah,ae,Vm,Vo⟩:=a;exact wr Y<|Wp.dO (ds:=[jD V.length,jD u.T.length]) rfl ai a0B<|wo Y (aA ao Y)<|Wp.aV (l:=[Fl.iD ak,.str an,.str ah,.sl (Ex.rs ae),.sl (St.rs Vm),.sl (St.rs Vo)]) rfl rfl rfl<|wl Y hr rfl<|wl Y (za a0B ⟨3,(x.i:Nat),0⟩) rfl<|wg 1 Y<|e_ (d:= .sl (m7 [(⟨5,(x.i:Nat),(k:Nat)⟩,⟨3,(x.i:Nat),0⟩),(⟨5,(x.i:Nat),(k:Nat)⟩,⟨5,(x.i:Nat),(j:Nat)⟩),(⟨3,(x.i:Nat),0⟩,⟨5,(x.i:Nat),(j:Nat)⟩)])) rfl rfl rfl<|wo Y (Iu a0B _ (xk 3))<|wo Y oA<|wj ih
end
end Go.Proofs.YthicpeihkkokmaaGreatDoor
namespace Go.Fl
mutual
theorem Ex.br1:∀(e:Ex) (a:Us),a∈Ex.us e->∃s,a= .rd s
 | .mk op name n args,a,h=>by
  rw[Ex.us,xF] at h;rcases h with h|h
  ·split at h
   ·cases h
   ·exact⟨name,xy.1 h⟩
  ·exact Ex.Qd args a h
theorem Ex.Qd:∀(l:List Ex) (a:Us),a∈Ex.fm l->∃s,a= .rd s
 |[],a,h=>nomatch h
 |e::l,a,h=>by
  rw[Ex.fm,xF] at h;exact h.elim (Ex.br1 e a) (Ex.Qd l a)
end
def Us.ok(R:St->Prop):Us->Prop
 | .sn (.mk k n h es th el)=>R (.mk k n h es th el)/\k=6
 | .tm (.mk k n h es th el)=>R (.mk k n h es th el)/\k=7
 | .wr t=>∃k h es th el,R (.mk k t h es th el)/\(k=1\/k=2\/k=3\/k=9)
 |_=>True
theorem be8{R:St->Prop}{k:Nat}{n h:aq}{es:List Ex}{th el:a0p}(hr:R (.mk k n h es th el)){a:Us}(ha:a∈c8 (.mk k n h es th el) n k):a.ok R:=by
 unfold c8 at ha;split at ha<;>simp only [xG,List.not_mem_nil,or_false] at ha
 ·subst ha;exact⟨_,_,_,_,_,hr,a0B⟩
 ·rcases ha with rfl|rfl
  ·trivial
  ·exact⟨_,_,_,_,_,hr,a0B⟩
 ·rcases ha with rfl|rfl
  ·trivial
  ·exact⟨_,_,_,_,_,hr,a0B⟩
 ·subst ha;exact⟨hr,rfl⟩
 ·subst ha;exact⟨hr,rfl⟩
 ·subst ha;trivial
 ·rcases ha with rfl|rfl|rfl
  ·trivial
  ·exact⟨_,_,_,_,_,hr,a0B⟩
  ·trivial
theorem dM.bA9{R:St->Prop}{s:St}(h:dM R s):∀a∈St.us s,a.ok R:=by
 induction h with
 | @mk k n hd es th el h h1 h2 i1 i2=>
  have ls:∀l:a0p,(∀s∈l,∀a∈St.us s,a.ok R)->∀a∈St.fm l,a.ok R:=by
   intro l hl
   induction l with
   |nil=>exact fun a h=>nomatch h
   |cons s l ih=>
    intro a ha;rw[St.fm,xF] at ha;exact ha.elim (hl s xn a) (ih (fun s hs=>hl s (xo _ hs)) a)
  intro a ha;rw[St.us,xF,xF,xF] at ha;rcases ha with ha|ha|ha|ha
  ·exact be8 h ha
  ·obtain⟨s,rfl⟩:=Ex.Qd _ _ ha;trivial
  ·exact ls th i1 a ha
  ·exact ls el i2 a ha
theorem aJ6{R:St->Prop}{l:a0p}(h:∀s∈l,dM R s):∀a∈St.fm l,a.ok R:=by
 induction l with
 |nil=>exact fun a h=>nomatch h
 |cons s l ih=>
  intro a ha;rw[St.fm,xF] at ha;exact ha.elim ((h s xn).bA9 a) (ih (fun s hs=>h s (xo _ hs)) a)
end Go.Fl
namespace Go.Proofs.YthicpeihkkokmaaGreatDoor
open Go.Ex Go.RowKit Go.Sort Go.Fl
section
section
variable{X:a0a}{ar:a0f}{x:Cx}
def uH(x:Cx)(s:aq):Ur:=u0.im (rm x.cm.aT s)
theorem PS{x:Cx}{s:aq}{a:Us}:a∈rm x.cm.aT s↔∃v∈x.cm.aT,∃h∈v,h.name=s/\a∈St.fm h.body:=by
 unfold rm;rw[List.mem_flatMap];refine exists_congr fun v=>and_congr_right fun _=> ?_
 rw[List.mem_flatMap];refine exists_congr fun h=>and_congr_right fun _=> ?_
 split
 ·rename_i e;rw[Kj];exact⟨fun h=>⟨e,h⟩,fun h=>h.2⟩
 ·rename_i e;exact⟨fun h=>(nomatch h),fun h=>absurd h.1 e⟩
theorem aX8(hx:eM ar x)(s:aq):(rm x.cm.aT s).length<=14400:=by
 obtain⟨_,ints,tables,al,h1,h2,h3,h4,h5,h6,h7,h8,h9⟩:=hx.f.comps _ _ hx.c;have aQ:=hx.f.jC al (xu h4);have:=qA (f:=fun v:List Hn=>v.flatMap fun h=>if h.name=s then St.fw h.body else[]) (l:=x.cm.aT) (m:=7200) fun v hv=>by
  have U7:=(h9 v hv).2.1;have:=qA (f:=fun h:Hn=>if h.name=s then St.fw h.body else[]) (l:=v) (m:=2400) fun h hh=>by
   have hf:=D0 hx hv hh;have h3:=(uv fun s hs=>(hf.ss s hs).mono fun s h=>h.1).2;have h4:=hf.n;split
   ·omega
   ·exact xL _
  omega
 unfold rm;omega
theorem GR(hx:eM ar x){s:aq}{a:Us}(ha:a∈rm x.cm.aT s):a.ok (Jl ar x):=by
 obtain⟨v,hv,h,hh,_,hm⟩:=PS.1 ha;exact aJ6 (fun s hs=>((D0 hx hv hh).ss s hs).mono fun s h=>h.2) a hm
theorem HP(x:Cx)(s:aq):UrQ u0 (uH x s) (rm x.cm.aT s):=Ur.TT _ _
theorem Y7(hx:eM ar x)(s:aq):(uH x s).R.length+(uH x s).W.length+(uH x s).S.length+(uH x s).T.length<=14400:=by
 have h1:=(HP x s).n;have h2:=aX8 hx s;have h3:u0.R.length+u0.W.length+u0.S.length+u0.T.length=0:=rfl;omega
theorem Bf{i:Nat}{al:a0g}(h:ar[i]? =some al):gI ar i=aP 104 al.length:=by unfold gI;rw[h];rfl
theorem aL9(hx:eM ar x)(s:aq):∀t∈(uH x s).S,ag5 ar x t:=fun t ht=>by
 have h:=GR hx (((HP x s).S t).1 ht|>.elim (fun h=>nomatch h) id);obtain⟨k,n,hd,es,th,el⟩:=t;obtain⟨⟨_,h2,_⟩,rfl⟩:=h;obtain⟨i,al,j,aQ,rfl,hj,rfl⟩:=h2 rfl;have hi:=iR aQ;have hn:=hx.f.n;have h3:=hx.f.jC al (xu aQ);exact⟨i,_,j,xc a0B,JQ hx.f hi,by rw[Bf aQ];exact Qu h3.2.1 hj⟩
theorem aV3(hx:eM ar x)(s:aq):∀t∈(uH x s).T,at5 ar x t:=fun t ht=>by
 have h:=GR hx (((HP x s).T t).1 ht|>.elim (fun h=>nomatch h) id);obtain⟨k,n,hd,es,th,el⟩:=t;obtain⟨⟨_,_,h2⟩,rfl⟩:=h;obtain⟨al,j,aQ,hj,rfl⟩:=h2 rfl;have h3:=hx.f.jC al (xu aQ);exact⟨j,by rw[Bf aQ];exact Qu h3.2.1 hj⟩
def gN(x:Cx)(p:aq×Nat):a0m:=[⟨5,(x.i:Nat),(p.2:Nat)⟩]++(dN x (uH x p.1)++((uH x p.1).S.map (sN x)++(uH x p.1).T.map fun _=>(⟨3,(x.i:Nat),0⟩:Nd)))
def gE(ar:a0f)(x:Cx)(p:aq×Nat):a0i:=((eo [] (mU x (uH x p.1).R)).map fun m=>(m,(⟨5,(x.i:Nat),(p.2:Nat)⟩:Nd)))++((((eo [] (mU x (uH x p.1).W)).filter fun m=>m.k=1).map fun m=>((⟨5,(x.i:Nat),(p.2:Nat)⟩:Nd),m))++(dE x ⟨5,(x.i:Nat),(p.2:Nat)⟩ (uH x p.1)++((uH x p.1).S.flatMap (sE ar x ⟨5,(x.i:Nat),(p.2:Nat)⟩)++(uH x p.1).T.flatMap (tE ar x ⟨5,(x.i:Nat),(p.2:Nat)⟩))))
theorem Ki(hx:eM ar x)(L:a0s):(eo [] (mU x L)).length<=L.length:=by
 have h1:=AP (ns:=mU x L);have h2:=qA (f:=rN x) (l:=L) (m:=1) fun s _=>Zm hx s
 unfold mU at h1⊢;omega
theorem gh(hx:eM ar x){ns:a0m}{es:a0i}{n k:Nat}{hs:a0s}{s:aq}{Q:a0d->Prop}(hk:hs[k]? =some s)(hl:hs.length<=100)(hb:ns.length+es.length<=700000)
 (K:Rn F X 150 4 (NV x (ns++gN x (s,k)) (es++gE ar x (s,k)) n hs (k+1)) Q):Rn F X 150 4 (NV x ns es n hs k) Q:=by
 have fk:=iR hk;have hu:=Y7 hx s;have ao:(strs hs)[k]? =some [.str s]:=by unfold strs;rw[xx,hk];rfl
 have l1:=Ki hx (uH x s).R;have l2:=Ki hx (uH x s).W;have al:=AP (ns:=ns);have dn:(dN x (uH x s)).length<=1:=by unfold dN;split<;>exact xh rfl
 have de:(dE x ⟨5,(x.i:Nat),(k:Nat)⟩ (uH x s)).length<=2:=by unfold dE;split<;>exact xh rfl
 have sl:=qA (f:=sE ar x ⟨5,(x.i:Nat),(k:Nat)⟩) (l:=(uH x s).S) (m:=3) fun _ _=>xk 3
 have fl:(((eo [] (mU x (uH x s).W)).filter fun m=>m.k=1).map fun m=>((⟨5,(x.i:Nat),(k:Nat)⟩:Nd),m)).length<=(eo [] (mU x (uH x s).W)).length:=by rw[xm];exact List.length_filter_le _ _
 have chain:∀{h:Nat} (h5:h=5\/h=6) (hd:h=5/\(uH x s).D=true\/h=6/\(uH x s).D=false),Rn F X 150 h (NT x (ns++[⟨5,(x.i:Nat),(k:Nat)⟩]) es n hs k (eo [] (mU x (uH x s).R)) 0 (uH x s)) Q:=fun{h} h5 hd=>by
  refine g5 hx h5 a0B (M:=eo [] (mU x (uH x s).R)) a0B (eo [] (mU x (uH x s).R)) [] rfl (by show _<=_+0;omega) ?_;refine g7 (h:=h+2) (hd.imp (fun h=>⟨by rw[h.1],h.2⟩) fun h=>⟨by rw[h.1],h.2⟩) (by rw[xa];show _+1<=_;omega) (M:=eo [] (mU x (uH x s).W)) a0B (eo [] (mU x (uH x s).W)) [] rfl (by rw[xa,xm];show _<=_+0;omega) ?_;refine g9 hx (h:=h+2+2) a0B a0B (uH x s).S [] rfl (aL9 hx s) (by simp only [xa,xm,List.length_singleton] at*;omega) ?_;refine g11 hx a0B (uH x s).T [] rfl (aV3 hx s) a0B (by simp only [xa,xm,List.length_singleton] at*;omega) ?_;unfold gN gE at K;simp only [a_] at K⊢;exact K
 have co:=be9 (X:=X) hx s;rw[show u0.im (rm x.cm.aT s)=uH x s from Y] at co;refine wr Y<|wy Y ai<|wo Y (aA ao Y)<|wg 1 Y<|wl Y (za a0B ⟨5,(x.i:Nat),(k:Nat)⟩) rfl<|wg 1 Y ?_;rw[De];dsimp only [c_,n_];cases hd:(uH x s).D with
 |true=>
  have c:=chain (h:=5) (.inl Y) (.inl ⟨rfl,hd⟩);refine Wp.jU Y co (by unfold Ur.d;rw[hd];rfl)<|wg 1 Y ?_;dsimp only [Ur.d,c_,n_];exact wL Y (OD hx a0B) rfl<|wo Y (az (vX _))<|wj c
 |false=>
  have c:=chain (h:=6) (.inr Y) (.inr ⟨rfl,hd⟩);refine Wp.HL Y co (by unfold Ur.d;rw[hd];rfl)<|Wp.jU Y co (by unfold Ur.d;rw[hd];rfl)<|wg 1 Y ?_;dsimp only [Ur.d,c_,n_];exact wL Y (OD hx a0B) rfl<|wo Y (az (vX _))<|wj c
end
end
section
variable{X:a0a}{ar:a0f}{x:Cx}
theorem ad1(hx:eM ar x)(p:aq×Nat):(gN x p).length+(gE ar x p).length<=57610:=by
 have hu:=Y7 hx p.1;have l1:=Ki hx (uH x p.1).R;have l2:=Ki hx (uH x p.1).W;have dn:(dN x (uH x p.1)).length<=1:=by unfold dN;split<;>exact xh rfl
 have de:(dE x ⟨5,(x.i:Nat),(p.2:Nat)⟩ (uH x p.1)).length<=2:=by unfold dE;split<;>exact xh rfl
 have sl:=qA (f:=sE ar x ⟨5,(x.i:Nat),(p.2:Nat)⟩) (l:=(uH x p.1).S) (m:=3) fun _ _=>xk 3
 have tl:=qA (f:=tE ar x ⟨5,(x.i:Nat),(p.2:Nat)⟩) (l:=(uH x p.1).T) (m:=3) fun _ _=>xk 3
 have fl:=List.length_filter_le (fun m:Nd=>decide (m.k=1)) (eo [] (mU x (uH x p.1).W));unfold gN gE;simp only [xa,xm,List.length_singleton];omega
abbrev E8(x:Cx)(ns:a0m)(es:a0i)(j:Nat):a0d:=[.sl (fe (eo [] ns)),.sl (m7 es),.sl (x.f.comps.map Cm.r),jD x.f.comps.length,jD j,.str x.f.name,.sl (x.f.flags.map Fg.d),.sl (x.f.links.map Lk.d)]
theorem g4(hx:eM ar x)(hi:x.i<=100){hs:a0s}(hl:hs.length<=100){Q:a0d->Prop}:∀(aa V:a0s),hs=V++aa->∀{ns:a0m} {es:a0i},ns.length+es.length+57610*aa.length<=700000->
 Rn F X 150 2 (E8 x (ns++(aa.zipIdx V.length).flatMap (gN x)) (es++(aa.zipIdx V.length).flatMap (gE ar x)) (x.i+1)) Q->
 Rn F X 150 4 (NV x ns es x.f.comps.length hs V.length) Q
 |[],V,hp,ns,es,hb,K=>by
  have aW:=nG hp;rw[List.zipIdx_nil,List.flatMap_nil,List.flatMap_nil,xj,xj] at K;exact wr Y<|wn Y ai<|wo Y oA<|wj K
 |a::aa,V,hp,ns,es,hb,K=>by
  have hk:hs[V.length]? =some a:=by rw[hp,xq (xk _),Nat.sub_self];rfl
  have gl:=ad1 hx (a,V.length);rw[xi] at hb;rw[List.zipIdx_cons,List.flatMap_cons,List.flatMap_cons,<-a_,<-a_] at K;have ih:=g4 hx hi hl aa (V++[a]) (lH hp) (ns:=ns++gN x (a,V.length)) (es:=es++gE ar x (a,V.length)) (by simp only [xa];omega) (by rw[xa];exact K);rw[xa] at ih;exact gh hx hk hl a0B ih
def z5(ar:a0f)(x:Cx):a0m:=(List.range x.cm.vars.length).map (fun v=>(⟨1,(x.i:Nat),(v:Nat)⟩:Nd))++(gI ar x.i).zipIdx.flatMap (gN x)
def rE(ar:a0f)(x:Cx):a0i:=(gI ar x.i).zipIdx.flatMap (gE ar x)
theorem g3(hx:eM ar x)(hi:x.i<=100){Q:a0d->Prop}:∀(m v:Nat),v+m=x.cm.vars.length->∀{ns:a0m} {es:a0i},ns.length+es.length+m<=527000->
 Rn F X 150 2 (E8 x (ns++((List.range' v m).map (fun v=>(⟨1,(x.i:Nat),(v:Nat)⟩:Nd))++(gI ar x.i).zipIdx.flatMap (gN x))) (es++rE ar x) (x.i+1)) Q->
 Rn F X 150 3 [.sl (fe (eo [] ns)),.sl (m7 es),jD x.i,.sl (x.f.comps.map Cm.r),jD x.f.comps.length,jD x.cm.vars.length,jD v,.str x.f.name,.sl (x.f.flags.map Fg.d),.sl (x.f.links.map Lk.d),.str x.cm.name,.sl (x.cm.vars.map Vr.r),.sl (pI x.cm.aT)] Q
 |0,v,hv,ns,es,hb,K=>by
  obtain⟨_,ints,tables,al,_,_,_,h4,_⟩:=hx.f.comps _ _ hx.c;have h3:=hx.f.jC al (xu h4);have hl:(gI ar x.i).length<=3:=by rw[Bf h4,Gx];omega
  have st:=g4 hx hi (hs:=gI ar x.i) a0B (gI ar x.i) [] rfl (ns:=ns) (es:=es) a0B K;exact wr Y<|wn Y ai<|wl Y (Zi hx) rfl<|wo Y (az (lA _))<|wj st
 |m+1,v,hv,ns,es,hb,K=>by
  have al:=AP (ns:=ns);have ve:=Dj hx;have ih:=g3 hx hi m (v+1) a0B (ns:=ns++[⟨1,(x.i:Nat),(v:Nat)⟩]) (es:=es) (by rw[xa];show _+1+_+_<=_;omega) (by rw[a_];exact K);rw[<-De] at ih;exact wr Y<|wy Y ai<|wl Y (za a0B ⟨1,(x.i:Nat),(v:Nat)⟩) rfl<|wo Y oA<|wj ih
theorem bs1(hx:eM ar x):(z5 ar x).length+(rE ar x).length<=172840:=by
 obtain⟨_,ints,tables,al,_,_,_,h4,_⟩:=hx.f.comps _ _ hx.c;have h3:=hx.f.jC al (xu h4);have hl:(gI ar x.i).length<=3:=by rw[Bf h4,Gx];omega
 have ve:=Dj hx;have:∀(ps:List (aq×Nat)),(ps.flatMap (gN x)).length+(ps.flatMap (gE ar x)).length<=57610*ps.length:=by
  intro ps
  induction ps with
  |nil=>exact xL _
  |cons p ps ih=>
   have:=ad1 hx p;rw[List.flatMap_cons,List.flatMap_cons,xa,xa,xi];omega
 have:=this (gI ar x.i).zipIdx;rw[List.length_zipIdx] at this;unfold z5 rE;rw[xa,xm,List.length_range];omega
theorem g2(hx:vL ar x):∀(aa V:List Cm),x.f.comps=V++aa->∀{ns:a0m} {es:a0i},ns.length+es.length+172840*aa.length<=519000->
 Rn F X 150 2 (E8 x ns es V.length) (·=[.sl (fe (eo [] (ns++(aa.zipIdx V.length).flatMap fun p=>z5 ar (eK x p)))),.sl (m7 (es++(aa.zipIdx V.length).flatMap fun p=>rE ar (eK x p)))])
 |[],V,hp,ns,es,hb=>by
  have aW:=nG hp;rw[List.zipIdx_nil,List.flatMap_nil,List.flatMap_nil,xj,xj];exact wr Y<|wn Y ai<|wt Y Y
 |a::aa,V,hp,ns,es,hb=>by
  have aW:=l6 hp;have hn:=hx.f.n;have ao:(x.f.comps.map Cm.r)[V.length]? =some a.r:=qY hp;have hc:x.f.comps[V.length]? =some a:=by rw[hp,xq (xk _),Nat.sub_self];rfl
  have Uj:eM ar (eK x (a,V.length)):=⟨hx.f,hx.p,hx.id,hc⟩;have rl:=bs1 Uj;have ve:a.vars.length<=5:=Dj Uj;rw[xi] at hb;have ih:=g2 hx aa (V++[a]) (lH hp) (ns:=ns++z5 ar (eK x (a,V.length))) (es:=es++rE ar (eK x (a,V.length))) (by simp only [xa];omega);rw[xa,a_,a_] at ih;have st:=g3 Uj (by show V.length<=100;omega) a.vars.length 0 (Nat.zero_add _) (ns:=ns) (es:=es) a0B (by
   rw[<-List.range_eq_range'];exact ih)
  rw[List.zipIdx_cons,List.flatMap_cons,List.flatMap_cons];obtain⟨an,av,Jk⟩:=a;exact wr Y<|wy Y ai<|wo Y (aA ao Y)<|wg 1 Y<|wo Y (az (xm _))<|wj st
theorem g1(hx:vL ar x){Q:a0d->Prop}:∀(m v:Nat),v+m=x.f.flags.length->∀{ns:a0m},ns.length+m<=100->
 Rn F X 150 2 (E8 x (ns++(List.range' v m).map fun v=>(⟨4,(v:Nat),0⟩:Nd)) [] 0) Q->
 Rn F X 150 1 ([.sl (fe (eo [] ns)),jD x.f.flags.length,jD v]++x.f.r) Q
 |0,v,hv,ns,hb,K=>by
  have hf:=hx.f.flags.1;rw[show(List.range' v 0).map (fun v=>(⟨4,(v:Nat),0⟩:Nd))=[] from Y,xj] at K;exact wr Y<|wn Y ai<|wo Y (az (xm _))<|wj K
 |m+1,v,hv,ns,hb,K=>by
  have hf:=hx.f.flags.1;have al:=AP (ns:=ns);have ih:=g1 hx m (v+1) a0B (ns:=ns++[⟨4,(v:Nat),0⟩]) (by rw[xa];show _+1+_<=_;omega) (by rw[a_];exact K);rw[<-De] at ih;exact wr Y<|wy Y ai<|wl Y (za a0B ⟨4,(v:Nat),0⟩) rfl<|wo Y oA<|wj ih
def NS(ar:a0f)(x:Cx):a0m:=(List.range x.f.flags.length).map (fun v=>(⟨4,(v:Nat),0⟩:Nd))++x.f.comps.zipIdx.flatMap fun p=>z5 ar (eK x p)
def ES(ar:a0f)(x:Cx):a0i:=x.f.comps.zipIdx.flatMap fun p=>rE ar (eK x p)
theorem aE9(hx:vL ar x):Rn F X 150 0 x.f.r (·=[.sl (fe (eo [] (NS ar x))),.sl (m7 (ES ar x))]):=by
 have hf:=hx.f.flags.1;have hn:=hx.f.n;have h2:=g2 (X:=X) hx x.f.comps [] rfl (ns:=(List.range x.f.flags.length).map fun v=>(⟨4,(v:Nat),0⟩:Nd)) (es:=[]) (by rw[xm,List.length_range];show _+0+_<=_;omega);rw[List.range_eq_range'] at h2;have h1:=g1 hx x.f.flags.length 0 (Nat.zero_add _) (ns:=[]) (by show 0+_<=_;omega) h2;rw[<-List.range_eq_range'] at h1;exact wr Y<|wo Y (az (xm _))<|wj h1
end
end Go.Proofs.YthicpeihkkokmaaGreatDoor
