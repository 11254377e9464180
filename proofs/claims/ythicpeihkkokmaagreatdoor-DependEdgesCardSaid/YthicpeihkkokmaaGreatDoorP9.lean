/- What these functions answer. -/
import Derived.Test.YthicpeihkkokmaaGreatDoorP8
set_option linter.unusedVariables false
set_option linter.unusedSimpArgs false
set_option maxHeartbeats 4000000
set_option maxRecDepth 100000
namespace Go.Fl
theorem jQ.SI{w:Wd}{R:St->Prop}(H:∀B s,lO w B s->R s):∀{d:Nat} {l:a0q},jQ w d l->∀s∈l,dL R s
 |0,l,h,s,hs=>by rw[show l=[] from h] at hs;cases hs
 |d+1,l,h,s,hs=>by
  have h1:=h s hs;have h3:=H _ _ h1;obtain⟨kind,name,cf,bf,th,el⟩:=s;obtain⟨n1,n2⟩:=h1.nest;refine .mk h3 (fun s hs=> ?_) (fun s hs=> ?_)
  ·rcases n1 with rfl|n1
   ·cases hs
   ·exact jQ.SI H n1 s hs
  ·rcases n2 with rfl|n2
   ·cases hs
   ·exact jQ.SI H n2 s hs
end Go.Fl
namespace Go.Proofs.YthicpeihkkokmaaGreatDoor
open Go.Ex Go.RowKit Go.Sort Go.Fl
theorem W7{s:aq}:∀{l:a0s},s∈l->∃v,cq l s=some v
 |x::l,h=>by
  show∃v,(if x=s then some 0 else(cq l s).map (· +1))=some v;split
  ·exact⟨0,rfl⟩
  ·rename_i hx;obtain⟨v,hv⟩:=W7 ((xG.1 h).elim (fun e=>absurd e.symm hx) id);exact⟨v+1,by rw[hv];rfl⟩
section
variable{ar:a0f}{x:Cx}
theorem eu.ok(hx:eu ar x):Hp x:=by
 have hn:=hx.f.n;have hf:=hx.f.flags.1;obtain⟨_,ints,tables,al,h1,h2,h3,h4,h5,_⟩:=hx.f.comps _ _ hx.c;refine⟨hx.c,?_,a0B,a0B⟩;rw[h5];simp;omega
structure MI (ar:a0f) (x:Cx) (h:Hn):Prop where
 nm:∃k al,ar[x.i]? =some al/\k<al.length/\h.name=nm 104 k
 ss:∀s∈h.body,dL (fun s=>jy s/\Il ar x s) s
 n:St.ns h.body<=12
theorem CR(hx:eu ar x){v:List Hn}(hv:v∈x.cm.aS){h:Hn}(hh:h∈v):MI ar x h:=by
 obtain⟨_,ints,tables,al,h1,h2,h3,h4,h5,_,_,_,h9⟩:=hx.f.comps _ _ hx.c;obtain⟨_,h6,h7⟩:=h9 v hv;obtain⟨k,hk⟩:=qf hh;have ho:=h7 k h hk;obtain⟨n,hn,_,hb⟩:=ho.lW;have aR:=hx.f.ji al (xu h4);have hw:(⟨⟨ints,tables,x.f.flags.length,n⟩,ar,x.i⟩:Wd).Ok:=⟨⟨h2,h3,hx.f.flags.1,aR.2.2 n (xu hn)⟩,hx.f.n.2.2,fun l h=>(hx.f.ji l h).2⟩;have vars:∀s,(∃k<ints,s=nm 120 k)\/s=nm 98 0\/(0<tables/\s=nm 116 0)->∃v,cq x.vn s=some v:=fun s hs=>W7 (by
  unfold Cx.vn;rw[h5,List.map_append,List.map_cons,xF,xG,List.map_map,List.map_map];rcases hs with⟨k,hk,rfl⟩|rfl|⟨ht,rfl⟩
  ·exact .inl (xJ.2 ⟨k,List.mem_range.2 hk,rfl⟩)
  ·exact .inr (.inl Y)
  ·exact .inr (.inr (xJ.2 ⟨0,List.mem_range.2 ht,rfl⟩)))
 refine⟨⟨k,al,h4,(by have:=(xe.1 hk).1;omega),ho.name⟩,fun s hs=> ?_,ho.n⟩;refine(jQ.all hw hb ho.n s hs).and (hb.SI (R:=Il ar x) (fun B s hs=> ?_) s hs);cases hs with
 |mZ k hk he=>exact⟨fun _=>vars _ (.inl ⟨k,hk,rfl⟩),fun h=>a0B,fun h=>a0B⟩
 |AN he=>exact⟨fun _=>vars _ (.inr (.inl Y)),fun h=>a0B,fun h=>a0B⟩
 |put h _ _=>exact⟨fun _=>vars _ (.inr (.inr ⟨h,rfl⟩)),fun h=>a0B,fun h=>a0B⟩
 |del h _=>exact⟨fun _=>vars _ (.inr (.inr ⟨h,rfl⟩)),fun h=>a0B,fun h=>a0B⟩
 |Dg k hk _ _=>exact⟨fun _=>vars _ (.inl ⟨k,hk,rfl⟩),fun h=>a0B,fun h=>a0B⟩
 |send i h n hi hh _ _=>exact⟨fun h=>a0B,fun _=>⟨i,_,h,hi,rfl,iB hh,rfl⟩,fun h=>a0B⟩
 |Bi h n hi hh _ _=>exact⟨fun h=>a0B,fun h=>a0B,fun _=>⟨_,h,hi,iB hh,rfl⟩⟩
 |cond|Du|store|stop=>exact⟨fun h=>a0B,fun h=>a0B,fun h=>a0B⟩
def hE(ar:a0f)(x:Cx)(h:Hn):a0h:=(St.cg h.body).flatMap (p7 ar x (hN ar x.i h.name))
def EQ(ar:a0f)(x:Cx):a0i:=(List.range x.cm.vars.length).map (fun v=>(⟨1,(x.i:Nat),(v:Nat)⟩:Nd))++x.cm.aS.flatten.map fun h=>hN ar x.i h.name
def cE(ar:a0f)(x:Cx):a0h:=x.cm.aS.flatten.flatMap (hE ar x)
structure BI (b:Bd) (ns:a0i) (es:a0h):Prop where
 l:b.l.Nodup
 E:b.E.Nodup
 ml:∀n,n∈b.l↔n∈ns\/∃e∈es,n=e.1\/n=e.2
 mE:∀e,e∈b.E↔e∈es
 nl:b.l.length<=ns.length+2*es.length
 nE:b.E.length<=es.length
theorem N2{n:Nd}{l:a0i}:(iI n l).length<=l.length+1:=by
 unfold iI;split
 ·omega
 ·rw[xa];exact xk _
theorem aF8{e:Nd×Nd}{l:a0h}:(sv e l).length<=l.length+1:=by
 unfold sv;split
 ·omega
 ·rw[xa];exact xk _
theorem BI.node{b:Bd}{ns:a0i}{es:a0h}(h:BI b ns es)(n:Nd)(c:Int)(o:Nd):BI {b with c:=c,h:=o,l:=iI n b.l} (ns++[n]) es:=by
 refine⟨OD h.l,h.E,fun m=> ?_,h.mE,?_,h.nE⟩
 ·show m∈iI n b.l↔_;rw[NZ,h.ml,xF,xy];grind
 ·have:=N2 (n:=n) (l:=b.l);have:=h.nl;show(iI n b.l).length<=_;rw[xa,List.length_singleton];omega
theorem BI.iU{b:Bd}{ns:a0i}{es:a0h}(h:BI b ns es)(e:Nd×Nd):BI (b.iU e) ns (es++[e]):=by
 refine⟨OD (OD h.l),aP4 h.E,fun m=> ?_,fun a=> ?_,?_,?_⟩
 ·show m∈iI e.2 (iI e.1 b.l)↔_;rw[NZ,NZ,h.ml];simp only [xF,xy];grind
 ·show a∈sv e b.E↔_;rw[aF2,h.mE,xF,xy]
 ·have h1:=N2 (n:=e.1) (l:=b.l);have h2:=N2 (n:=e.2) (l:=iI e.1 b.l);have:=h.nl;show(iI e.2 (iI e.1 b.l)).length<=_;rw[xa,List.length_singleton];omega
 ·have:=aF8 (e:=e) (l:=b.E);have:=h.nE;show(sv e b.E).length<=_;rw[xa,List.length_singleton];omega
theorem BI.jR{ns:a0i}:∀(uz:a0h) {b:Bd} {es:a0h},BI b ns es->BI (b.jR uz) ns (es++uz)
 |[],_,_,h=>by rw[xj];exact h
 |e::uz,_,es,h=>by
  have:=BI.jR uz (h.iU e);rw[a_] at this;exact this
def Bd.hand(ar:a0f)(x:Cx)(b:Bd)(h:Hn):Bd:=Bd.us ar x {b with c:=(x.i:Nat),h:=hN ar x.i h.name,l:=iI (hN ar x.i h.name) b.l} (St.cg h.body)
theorem BI.ZC:∀(hs:List Hn) {b:Bd} {ns:a0i} {es:a0h},BI b ns es->BI (hs.foldl (Bd.hand ar x) b) (ns++hs.map fun h=>hN ar x.i h.name) (es++hs.flatMap (hE ar x))
 |[],_,_,_,h=>by rw[List.map_nil,List.flatMap_nil,xj,xj];exact h
 |a::hs,b,ns,es,h=>by
  have:=BI.ZC hs ((h.node (hN ar x.i a.name) (x.i:Nat) (hN ar x.i a.name)).jR (hE ar x a));rw[a_,a_] at this;exact this
def Bd.node(i:Nat)(b:Bd)(v:Nat):Bd:={b with l:=iI ⟨1,(i:Nat),(v:Nat)⟩ b.l}
theorem BI.vars{i:Nat}:∀(vs:a0g) {b:Bd} {ns:a0i} {es:a0h},BI b ns es->BI (vs.foldl (Bd.node i) b) (ns++vs.map fun v=>(⟨1,(i:Nat),(v:Nat)⟩:Nd)) es
 |[],_,_,_,h=>by rw[List.map_nil,xj];exact h
 |a::vs,b,ns,es,h=>by
  have:=BI.vars (i:=i) vs (h.node ⟨1,(i:Nat),(a:Nat)⟩ b.c b.h);rw[a_] at this;exact this
def Bd.cmp(ar:a0f)(x:Cx)(b:Bd):Bd:=x.cm.aS.foldl (fun b v=>v.foldl (Bd.hand ar x) b) ((List.range x.cm.vars.length).foldl (Bd.node x.i) b)
theorem BI.cmp{b:Bd}{ns:a0i}{es:a0h}(h:BI b ns es):BI (b.cmp ar x) (ns++EQ ar x) (es++cE ar x):=by
 have:=BI.ZC (ar:=ar) (x:=x) x.cm.aS.flatten (h.vars (i:=x.i) (List.range x.cm.vars.length));rw[a_,List.foldl_flatten] at this;exact this
end
section
variable{X:a0a}{ar:a0f}{x:Cx}
def Bd.g(b:Bd)(x:Cx):Prop:=∃c h l E,b=⟨qO x.f x.src x.ids x.rows,0,c,h,l,E⟩
theorem Bd.x.g{b:Bd}(h:b.x x):b.g x:=by obtain⟨h,l,E,rfl⟩:=h;exact⟨_,_,_,_,rfl⟩
theorem of5(hx:eu ar x){C vr:a0b}{hs:List Hn}(hl:hs.length<=1000){n nv j:Nat}(hj:j<=1000){Q:a0d->Prop}:∀(aa V:List Hn),hs=V++aa->(∀h∈aa,MI ar x h)->∀{b:Bd},b.g x->
 (∀{b':Bd},b'.g x->b'=aa.foldl (Bd.hand ar x) b->Rn F X 129 4 ([jD x.i,.sl C,jD n,.sl vr,jD nv,jD (j+1)]++b'.d) Q)->
 Rn F X 129 5 ([jD x.i,.sl C,jD n,.sl vr,jD nv,jD j,.sl (hs.map Hn.s),jD hs.length,jD V.length]++b.d) Q
 |[],V,hp,_,b,hb,K=>by
  have aL:hs.length=V.length:=by rw[hp,xj]
  exact wr Y<|Wp.c8 (ds:=[jD V.length,jD hs.length]) rfl af a0B<|wo Y oA<|wj (K hb rfl)
 |a::aa,V,hp,hh,b,hb,K=>by
  have aL:hs.length=V.length+(aa.length+1):=by rw[hp,xa];rfl
  have ao:(hs.map Hn.s)[V.length]? =some a.s:=by rw[hp,List.map_append,xq (by rw[xm];exact xk _),xm,Nat.sub_self];rfl
  have ha:=hh a xn;obtain⟨q,al,aR,hq,iZ⟩:=ha.nm;have h3:=hx.f.ji al (xu aR);have hi:=(xe.1 aR).1;obtain⟨us,fs,eS,ow⟩:=P9 hx aR;have Ic:=Pb hx;have we:=hx.ok;have H7:hN ar x.i a.name=⟨5,(x.i:Nat),(q:Nat)⟩:=by rw[iZ];exact Df hx aR hq
  have zg:a.body.length<=12:=xH (mS _) ha.n;have bX:Bd.x {b with c:=(x.i:Nat),h:=hN ar x.i a.name,l:=iI (hN ar x.i a.name) b.l} x:=by obtain⟨c,h,l,E,rfl⟩:=hb;exact⟨_,_,_,rfl⟩
  have st:=az8 (X:=X) hx we zg ha.ss bX;have ih:=of5 hx (C:=C) (vr:=vr) hl (n:=n) (nv:=nv) hj (Q:=Q) aa (V++[a]) (by rw[hp,a_];rfl) (fun h hm=>hh h (xo _ hm)) (b:=b.hand ar x a) (Dv bX _).g K;rw[xa] at ih;rw[H7] at st;have eh:b.hand ar x a=Bd.us ar x {b with c:=(x.i:Nat),h:=⟨5,(x.i:Nat),(q:Nat)⟩,l:=iI ⟨5,(x.i:Nat),(q:Nat)⟩ b.l} (St.cg a.body):=by unfold Bd.hand;rw[H7]
  rw[eh] at ih;obtain⟨c,h,l,E,rfl⟩:=hb;obtain⟨an,ap,ab⟩:=a;simp only at iZ;subst iZ;refine wr Y<|Wp.dt (ds:=[jD V.length,jD hs.length]) rfl af a0B<|wo Y (ax ao Y)<|o_ (l:=[.str (nm 104 q),.sl (strs ap),.sl (St.ss ab)]) rfl rfl rfl ?_;dsimp only [c_,n_];refine wg 2 Y<|e_ (d:= .ptr (qO x.f x.src x.ids x.rows) 37) rfl rfl rfl<|e_ (d:= .ptr [.sl x.rows] 0) rfl Ic rfl<|wg 1 Y<|Wp.c8 (ds:=[jD x.i,jD 0]) rfl af a0B<|wg 2 Y<|e_ (d:= .sl x.rows) rfl rfl rfl<|wo Y (au ow) ?_;dsimp only [c_,n_];refine Wp.c8 (ds:=[jD x.i,jD ar.length]) rfl eP a0B<|wg 2 Y<|e_ (d:= .sl x.rows) rfl rfl rfl<|wo Y (ax eS rfl)<|wg 1 Y ?_;dsimp only [c_,n_];refine e_ (d:= .sl (strs (aP 104 al.length))) rfl rfl rfl<|Wp.qQ Y (Pk a0B)<|e_ (d:= .sl []) rfl rfl rfl<|wo Y (NL h3.2.1)<|wg 1 Y ?_;dsimp only [c_,n_];refine wL Y (Cq h3.2.1 hq) rfl ?_;dsimp only [c_,n_];refine wo Y (uo ⟨5,(x.i:Nat),(q:Nat)⟩ l)<|wg 1 Y ?_;dsimp only [c_,n_];refine wL Y st rfl ?_;dsimp only [c_,n_];exact wo Y oA<|wj ih
theorem of4(hx:eu ar x){C:a0b}{n:Nat}(hn:x.i<=1000){vs:a0y}(bH:vs.length<=1000){Q:a0d->Prop}:∀(aa V:a0y),vs=V++aa->(∀v∈aa,v.length<=1000/\∀h∈v,MI ar x h)->∀{b:Bd},b.g x->
 (∀{b':Bd},b'.g x->b'=aa.foldl (fun b v=>v.foldl (Bd.hand ar x) b) b->Rn F X 129 2 ([.sl C,jD n,jD (x.i+1)]++b'.d) Q)->
 Rn F X 129 4 ([jD x.i,.sl C,jD n,.sl (ca vs),jD vs.length,jD V.length]++b.d) Q
 |[],V,hp,_,b,hb,K=>by
  have aL:vs.length=V.length:=by rw[hp,xj]
  exact wr Y<|Wp.c8 (ds:=[jD V.length,jD vs.length]) rfl af a0B<|wo Y oA<|wj (K hb rfl)
 |a::aa,V,hp,hh,b,hb,K=>by
  have aL:vs.length=V.length+(aa.length+1):=by rw[hp,xa];rfl
  have ao:(ca vs)[V.length]? =some [.sl (a.map Hn.s)]:=by unfold ca;rw[hp,List.map_append,xq (by rw[xm];exact xk _),xm,Nat.sub_self];rfl
  obtain⟨h1,h2⟩:=hh a xn;have st:=of5 (X:=X) hx (C:=C) (vr:=ca vs) h1 (n:=n) (nv:=vs.length) (j:=V.length) a0B (Q:=Q) a [] rfl h2 hb (fun{b'} kQ he=>by
   have:=of4 hx (C:=C) (n:=n) hn bH aa (V++[a]) (by rw[hp,a_];rfl) (fun v hm=>hh v (xo _ hm)) kQ (fun bP h=>K bP (by rw[h,he];rfl));rw[xa] at this;exact this)
  exact wr Y<|Wp.dt (ds:=[jD V.length,jD vs.length]) rfl af a0B<|wo Y (ax ao Y)<|o_ (l:=[.sl (a.map Hn.s)]) rfl rfl rfl<|wo Y (au (xm _))<|wj st
theorem of3{C vr:a0b}{nm:aq}{n nv:Nat}{vars:a0b}{Q:a0d->Prop}{i k:Nat}(hk:k<=1000):∀(m v:Nat),v+m=k->∀{b:Bd},b.g x->
 (∀{b':Bd},b'.g x->b'=(List.range' v m).foldl (Bd.node i) b->Rn F X 129 4 ([jD i,.sl C,jD n,.sl vr,jD vr.length,jD 0]++b'.d) Q)->
 Rn F X 129 3 ([jD i,.sl C,jD n,jD k,jD v,.ptr b.fr b.fo,gm b.c,.int .u8 b.h.k,gm b.h.a,gm b.h.b,.str nm,.sl vars,.sl vr,.sl (b.l.map cL),.sl (b.E.map lH)]) Q
 |0,v,hv,b,hb,K=>by
  exact wr Y<|Wp.c8 (ds:=[jD v,jD k]) rfl af a0B<|wo Y bc<|wj (K hb rfl)
 |m+1,v,hv,b,hb,K=>by
  have ih:=of3 (C:=C) (vr:=vr) (nm:=nm) (n:=n) (nv:=nv) (vars:=vars) (Q:=Q) (i:=i) hk m (v+1) a0B (b:=Bd.node i b v) (by obtain⟨c,h,l,E,rfl⟩:=hb;exact⟨_,_,_,_,rfl⟩) K;exact wr Y<|Wp.dt (ds:=[jD v,jD k]) rfl af a0B<|wo Y (uo ⟨1,(i:Nat),(v:Nat)⟩ b.l)<|wo Y oA<|wj ih
def eo(x:Cx)(p:Cm×Nat):Cx:={x with i:=p.2,cm:=p.1}
theorem of2(hf:gU ar x.f)(hp':Ds ar x.rows)(dP:x.ids.length=32){Q:a0d->Prop}(hQ:∀o,Q o->∃a b c,o=[.sl a,.sl b,.sl c]):∀(aa V:List Cm),x.f.comps=V++aa->∀{b:Bd},b.g x->
 (∀{b':Bd},b'.g x->b'=(aa.zipIdx V.length).foldl (fun b p=>b.cmp ar (eo x p)) b->Rn F X 165 0 b'.d Q)->
 Rn F X 129 2 ([.sl (x.f.comps.map Cm.s),jD x.f.comps.length,jD V.length]++b.d) Q
 |[],V,hp,b,hb,K=>by
  have aL:x.f.comps.length=V.length:=by rw[hp,xj]
  refine wr Y<|Wp.c8 (ds:=[jD V.length,jD x.f.comps.length]) rfl af a0B<|wg 1 Y<|wx Y (K hb rfl) fun o ho=> ?_
  obtain⟨d1,d2,d3,rfl⟩:=hQ o ho;exact⟨rfl,wt Y ho⟩
 |a::aa,V,hp,b,hb,K=>by
  have aL:x.f.comps.length=V.length+(aa.length+1):=by rw[hp,xa];rfl
  have ao:(x.f.comps.map Cm.s)[V.length]? =some a.s:=by rw[hp,List.map_append,xq (by rw[xm];exact xk _),xm,Nat.sub_self];rfl
  have hc:x.f.comps[V.length]? =some a:=by rw[hp,xq (xk _),Nat.sub_self];rfl
  have hx:eu ar (eo x (a,V.length)):=⟨hf,hp',dP,hc⟩;have we:=hx.ok;have hn:=hf.n;obtain⟨_,ints,tables,al,h1,h2,h3,h4,h5,h6,h7,h8,h9⟩:=hf.comps _ _ hc;have aR:=hf.ji al (xu h4);have st:=of3 (X:=X) (x:=x) (C:=x.f.comps.map Cm.s) (vr:=ca a.aS) (nm:=a.name) (n:=x.f.comps.length) (nv:=a.aS.length) (vars:=a.vars.map Vr.s) (Q:=Q) (i:=V.length) we.nv a.vars.length 0 (Nat.zero_add _) hb (fun{b'} kQ he=>by
   have:=of4 (X:=X) hx (C:=x.f.comps.map Cm.s) (n:=x.f.comps.length) (by show V.length<=1000;omega) (vs:=a.aS) a0B (Q:=Q) a.aS [] rfl (fun v hv=>⟨by have:=(h9 v hv).2.1;omega,fun h hh=>CR hx hv hh⟩) kQ (fun{b2} bP h=>by
    have:=of2 hf hp' dP hQ aa (V++[a]) (by rw[hp,a_];rfl) bP (fun p6 e3=>K p6 (by
     rw[xa] at e3;rw[e3,h,he,List.zipIdx_cons,List.foldl_cons];unfold Bd.cmp;rw[List.range_eq_range'];rfl))
    rw[xa] at this;exact this)
   have e:(ca a.aS).length=a.aS.length:=xm _;rw[e];exact this)
  obtain⟨an,av,HF⟩:=a;exact wr Y<|Wp.dt (ds:=[jD V.length,jD x.f.comps.length]) rfl af a0B<|wo Y (ax ao Y)<|o_ (l:=[.str an,.sl (av.map Vr.s),.sl (ca HF)]) rfl rfl rfl<|wo Y (au (xm _))<|wj st
theorem of1{C:a0b}{n:Nat}{d:D}{Q:a0d->Prop}(hd:d=ny x.f x.src x.ids x.rows)(hk:n<=1000)(hC:Rn F X 95 0 x.f.s (·=x.f.s)):∀(m v:Nat),v+m=n->∀{l:a0i},
 Rn F X 129 2 ([.sl (x.f.comps.map Cm.s),jD x.f.comps.length,jD 0]++(⟨qO x.f x.src x.ids x.rows,0,0,⟨0,0,0⟩,((List.range' v m).map fun v=>(⟨4,(v:Nat),0⟩:Nd)).foldl (fun l n=>iI n l) l,[]⟩:Bd).d) Q->
 Rn F X 129 1 [d,jD n,jD v,.sl (l.map cL),.sl []] Q
 |0,v,hv,l,K=>by
  subst hd;refine wr Y<|Wp.c8 (ds:=[jD v,jD n]) rfl af a0B<|wg 3 Y<|o_ (l:=x.f.s) rfl rfl rfl<|wg 1 Y ?_;dsimp only [dj.s,c_,n_];refine wL Y hC rfl ?_;dsimp only [dj.s,c_,n_];exact wo Y (au (xm _))<|wj K
 |m+1,v,hv,l,K=>by
  subst hd;have ih:=of1 (C:=C) (Q:=Q) rfl hk hC m (v+1) a0B (l:=iI ⟨4,(v:Nat),0⟩ l) K;exact wr Y<|Wp.dt (ds:=[jD v,jD n]) rfl af a0B<|wo Y (uo ⟨4,(v:Nat),0⟩ l)<|wo Y oA<|wj ih
end
def fN(ar:a0f)(x:Cx):a0i:=(List.range x.f.flags.length).map (fun v=>(⟨4,(v:Nat),0⟩:Nd))++x.f.comps.zipIdx.flatMap fun p=>EQ ar (eo x p)
def fE(ar:a0f)(x:Cx):a0h:=x.f.comps.zipIdx.flatMap fun p=>cE ar (eo x p)
section
variable{X:a0a}{ar:a0f}{x:Cx}
theorem BI.al2:∀(cs:List (Cm×Nat)) {b:Bd} {ns:a0i} {es:a0h},BI b ns es->BI (cs.foldl (fun b p=>b.cmp ar (eo x p)) b) (ns++cs.flatMap fun p=>EQ ar (eo x p)) (es++cs.flatMap fun p=>cE ar (eo x p))
 |[],_,_,_,h=>by rw[List.flatMap_nil,List.flatMap_nil,xj,xj];exact h
 |a::cs,b,ns,es,h=>by
  have:=BI.al2 cs (h.cmp (ar:=ar) (x:=eo x a));rw[a_,a_] at this;exact this
theorem BI.flags:∀(ms:a0i) {b:Bd} {ns:a0i} {es:a0h},BI b ns es->BI {b with l:=ms.foldl (fun l n=>iI n l) b.l} (ns++ms) es
 |[],_,_,_,h=>by rw[xj];exact h
 |a::ms,b,ns,es,h=>by
  have:=BI.flags ms (h.node a b.c b.h);rw[a_] at this;exact this
end
section
variable{X:a0a}{ar:a0f}{x:Cx}
theorem so{α β:Type}{f:α->List β}{m:Nat}:∀{l:List α},(∀a∈l,(f a).length<=m)->(l.flatMap f).length<=l.length*m
 |[],_=>xL _
 |a::l,h=>by
  have h1:=h a xn;have h2:=so (l:=l) fun b hb=>h b (xo _ hb)
  rw[List.flatMap_cons,xa,xi,Nat.add_mul,Nat.one_mul];omega
theorem aT9(o:Nd)(a:Us):(p7 ar x o a).length<=3:=by
 cases a with
 |rd s=>
  show((rN x s).map (·,o)).length<=3;rw[xm];unfold rN;split
  ·exact Nat.le_add_left ..
  ·split<;>exact Nat.le_add_left ..
 |_=>exact xh rfl
theorem ba4{h:Hn}(hh:MI ar x h):(hE ar x h).length<=7200:=by
 have h1:=so (f:=p7 ar x (hN ar x.i h.name)) (l:=St.cg h.body) (m:=3) fun a _=>aT9 _ a
 have h2:=(tD fun s hs=>(hh.ss s hs).mono fun s h=>h.1).1;have h3:=hh.n;unfold hE;omega
theorem Xz(hx:eu ar x):x.cm.aS.flatten.length<=6:=by
 obtain⟨_,ints,tables,al,h1,h2,h3,h4,h5,h6,h7,h8,h9⟩:=hx.f.comps _ _ hx.c;have aR:=hx.f.ji al (xu h4);have h:=so (f:=fun v:List Hn=>v) (l:=x.cm.aS) (m:=3) fun v hv=>by have:=(h9 v hv).2.1;omega
 rw[List.flatMap_id'] at h;omega
theorem Ci(hx:eu ar x):x.cm.vars.length<=5:=by
 obtain⟨_,ints,tables,al,h1,h2,h3,h4,h5,h6,h7,h8,h9⟩:=hx.f.comps _ _ hx.c;rw[h5];simp;omega
theorem bf5(hx:eu ar x):(cE ar x).length<=43200:=by
 have h1:=so (f:=hE ar x) (l:=x.cm.aS.flatten) (m:=7200) fun h hh=>by
  obtain⟨v,hv,hh⟩:=List.mem_flatten.1 hh;exact ba4 (CR hx hv hh)
 have h2:=Xz hx;unfold cE;omega
theorem bf4(hx:eu ar x):(EQ ar x).length<=11:=by
 have h1:=Xz hx;have h2:=Ci hx;unfold EQ;rw[xa,xm,xm,List.length_range];omega
structure tu (ar:a0f) (x:Cx):Prop where
 f:gU ar x.f
 p:Ds ar x.rows
 id:x.ids.length=32
theorem tu.at(hx:tu ar x){p:Cm×Nat}(hp:p∈x.f.comps.zipIdx):eu ar (eo x p):=⟨hx.f,hx.p,hx.id,List.mem_zipIdx_iff_getElem?.1 hp⟩
theorem bp9(hx:tu ar x):(fN ar x).length<=35/\(fE ar x).length<=129600:=by
 have hn:=hx.f.n;have BH:=hx.f.flags.1;have hl:x.f.comps.zipIdx.length<=3:=by rw[List.length_zipIdx];omega
 have h1:=so (f:=fun p=>EQ ar (eo x p)) (l:=x.f.comps.zipIdx) (m:=11) fun p hp=>bf4 (hx.at hp)
 have h2:=so (f:=fun p=>cE ar (eo x p)) (l:=x.f.comps.zipIdx) (m:=43200) fun p hp=>bf5 (hx.at hp)
 unfold fN fE;rw[xa,xm,List.length_range];omega
def OfB(ar:a0f)(x:Cx)(o:a0d):Prop:=∃l E,o=[.sl (Nd.rs (gW l)),.sl (nx E),.sl (nx (E.map kr))]/\l.Nodup/\E.Nodup/\l.length<=1000000/\E.length<=1000000/\
 (∀n,n∈l↔n∈fN ar x\/∃e∈fE ar x,n=e.1\/n=e.2)/\∀e,e∈E↔e∈fE ar x
theorem bd8(hx:tu ar x):Rn F X 129 0 [ny x.f x.src x.ids x.rows] (OfB ar x):=by
 have hn:=hx.f.n;have BH:=hx.f.flags.1;have aE:=bp9 hx;refine wr Y<|wg 8 Y<|wo Y (au (xm _))<|b_ Y ?_;refine of1 (C:=[]) (n:=x.f.flags.length) rfl a0B (XP hx.f.ok) x.f.flags.length 0 (Nat.zero_add _) (l:=[]) ?_;refine of2 hx.f hx.p hx.id (fun o ho=> ?_) x.f.comps [] rfl ⟨_,_,_,_,rfl⟩ ?_
 ·obtain⟨l,E,rfl,_⟩:=ho;exact⟨_,_,_,rfl⟩
 intro b hb he;have bi:BI (⟨qO x.f x.src x.ids x.rows,0,0,⟨0,0,0⟩,[],[]⟩:Bd) [] []:=⟨.nil,.nil,fun n=>a0C,fun e=>Iff.rfl,xL _,xL _⟩;have:=BI.al2 (ar:=ar) (x:=x) x.f.comps.zipIdx (bi.flags ((List.range' 0 x.f.flags.length).map fun v=>(⟨4,(v:Nat),0⟩:Nd)));obtain⟨h1,h2,h3,h4,h5,h6⟩:BI b (fN ar x) (fE ar x):=by
  rw[he];unfold fN;rw[List.range_eq_range'];exact this
 have hg:=aH3 (X:=X) (l:=b.l) (E:=b.E) a0B a0B (fun e he=>⟨(h3 _).2 (.inr ⟨e,(h4 e).1 he,.inl Y⟩),(h3 _).2 (.inr ⟨e,(h4 e).1 he,.inr Y⟩)⟩) b.fr b.fo b.c b.h.k b.h.a b.h.b;exact hg.mono fun o ho=>⟨b.l,b.E,ho,h1,h2,a0B,a0B,h3,h4⟩
end
theorem mu{α:Type}{f:α->a0d}{l aa V:List α}{a:α}(hp:l=V++a::aa):(l.map f)[V.length]? =some (f a):=by
 rw[hp,List.map_append,xq (by rw[xm];exact xk _),xm,Nat.sub_self];rfl
theorem iH{α:Type}{l V:List α}(hp:l=V++[]):l.length=V.length:=by rw[hp,xj]
theorem gP{α:Type}{l aa V:List α}{a:α}(hp:l=V++a::aa):l.length=V.length+(aa.length+1):=by rw[hp,xa];rfl
theorem gi{α:Type}{l aa V:List α}{a:α}(hp:l=V++a::aa):l=(V++[a])++aa:=by rw[hp,a_];rfl
def pS(l:a0s)(s:aq):a0s:=if s∈l then l else l++[s]
section
variable{X:a0a}
theorem pn{out:a0s}(ho:out.length<=1000){vr hr:a0b}{n i nh j:Nat}(hj:j<=1000){s:aq}{p b:a0b}{Q:a0d->Prop}
 (K:Rn F X 143 2 [.sl (strs out),.sl vr,jD n,jD i,.sl hr,jD nh,jD (j+1)] Q):∀(m k:Nat),k+m=out.length->
 Rn F X 143 4 [.sl (strs out),.sl vr,jD n,jD i,.sl hr,jD nh,jD j,jD out.length,jD k,.str s,.sl p,.sl b] Q
 |0,k,hk=>by
  exact wr Y<|Wp.c8 (ds:=[jD k,jD out.length]) rfl af a0B<|wo Y oA<|wj K
 |m+1,k,hk=>by
  have ih:=pn ho (s:=s) (p:=p) (b:=b) hj K m (k+1) a0B;have ao:(strs out)[k]? =some [.str (out[k]' a0B)]:=by unfold strs;rw[xx,xc a0B];rfl
  exact wr Y<|Wp.dt (ds:=[jD k,jD out.length]) rfl af a0B<|wy Y (nZ (kT out))<|wo Y (Fk ao Y)<|wo Y oA<|wj ih
theorem mH{out:a0s}(ho:out.length<=1000){vr hr:a0b}{n i nh j:Nat}(hj:j<=1000){s:aq}{p b:a0b}{Q:a0d->Prop}:∀(aa V:a0s),out=V++aa->s∉V->
 (Rn F X 143 2 [.sl (strs (pS out s)),.sl vr,jD n,jD i,.sl hr,jD nh,jD (j+1)] Q)->
 Rn F X 143 3 [.sl (strs out),.sl vr,jD n,jD i,.sl hr,jD nh,jD j,jD out.length,jD V.length,.str s,.sl p,.sl b] Q
 |[],V,hp,hs,K=>by
  have hl:=iH hp;rw[xj] at hp;subst hp;unfold pS at K;rw[j_ hs] at K;exact wr Y<|Wp.c8 (ds:=[jD out.length,jD out.length]) rfl af a0B<|wg 1 Y<|e_ (d:= .sl [[.str s]]) rfl rfl rfl<|e_ (d:= .sl (strs (out++[s]))) rfl (by rw[gb (es:=1) (row:=[.str s]) rfl rfl (by rw[kT];omega) (by rw[kT];omega)];unfold strs;rw[List.map_append];rfl) rfl<|wo Y oA<|wj K
 |a::aa,V,hp,hs,K=>by
  have hl:=gP hp;have ao:(strs out)[V.length]? =some [.str a]:=mu hp;refine wr Y<|Wp.dt (ds:=[jD V.length,jD out.length]) rfl af a0B<|wy Y (nZ (kT out))<|wo Y (Fk ao Y)<|d_ (ds:=[.str a,.str s]) rfl jk (fun e=> ?_) (fun e=> ?_)
  ·subst e;unfold pS at K;rw[i_ (by rw[hp];simp)] at K;exact wo Y oA<|b_ Y (pn ho hj K (out.length - (V.length+1)) (V.length+1) a0B)
  ·have ih:=mH ho (p:=p) (b:=b) hj aa (V++[a]) (gi hp) (fun h=>(xF.1 h).elim hs fun h=>e (xy.1 h).symm) K;rw[xa] at ih;exact wo Y oA<|wj ih
theorem S'{l:a0s}{s:aq}:(pS l s).length<=l.length+1:=by
 unfold pS;split
 ·omega
 ·rw[xa];exact xk _
theorem cJ{hs:List Hn}(hl:hs.length<=100){vr:a0b}{n i:Nat}(hi:i<=100){Q:a0d->Prop}:∀(aa V:List Hn),hs=V++aa->∀{out:a0s},out.length+aa.length<=1000->
 (Rn F X 143 1 [.sl (strs ((aa.map (·.name)).foldl pS out)),.sl vr,jD n,jD (i+1)] Q)->
 Rn F X 143 2 [.sl (strs out),.sl vr,jD n,jD i,.sl (hs.map Hn.r),jD hs.length,jD V.length] Q
 |[],V,hp,out,ho,K=>by
  have hl:=iH hp;exact wr Y<|Wp.c8 (ds:=[jD V.length,jD hs.length]) rfl af a0B<|wo Y oA<|wj K
 |a::aa,V,hp,out,ho,K=>by
  have aL:=gP hp;have ao:(hs.map Hn.r)[V.length]? =some a.r:=mu hp;rw[xi] at ho;have:=S' (l:=out) (s:=a.name);have ih:=cJ hl (vr:=vr) (n:=n) hi aa (V++[a]) (gi hp) (out:=pS out a.name) a0B K;rw[xa] at ih;obtain⟨an,ap,ab⟩:=a;exact wr Y<|Wp.dt (ds:=[jD V.length,jD hs.length]) rfl af a0B<|wo Y (ax ao Y)<|o_ (l:=[.str an,.sl (strs ap),.sl (St.rs ab)]) rfl rfl rfl<|wo Y (au (kT out))<|b_ Y (mH a0B a0B out [] rfl List.not_mem_nil ih)
theorem dA{vs:a0y}(hl:vs.length<=100):∀(aa V:a0y),vs=V++aa->(∀v∈aa,v.length<=3)->∀{out:a0s},out.length+4*aa.length<=500->
 Rn F X 143 1 [.sl (strs out),.sl (pd vs),jD vs.length,jD V.length] (·=[.sl (strs (aa.foldl (fun l v=>(v.map (·.name)).foldl pS l) out))])
 |[],V,hp,_,out,ho=>by
  have hl:=iH hp;exact wr Y<|Wp.c8 (ds:=[jD V.length,jD vs.length]) rfl af a0B<|wt Y Y
 |a::aa,V,hp,hv,out,ho=>by
  have aL:=gP hp;have ao:(pd vs)[V.length]? =some [.sl (a.map Hn.r)]:=mu hp;have ha:=hv a xn;rw[xi] at ho;have fl:∀(ns out:a0s),(ns.foldl pS out).length<=out.length+ns.length:=by
   intro ns
   induction ns with
   |nil=>exact fun _=>xk _
   |cons s ns ih=>intro out;have:=ih (pS out s);have:=S' (l:=out) (s:=s);rw[List.foldl_cons,xi];omega
  have fa:=fl (a.map (·.name)) out;rw[xm] at fa;have ih:=dA hl aa (V++[a]) (gi hp) (fun v h=>hv v (xo _ h)) (out:=(a.map (·.name)).foldl pS out) a0B;rw[xa] at ih;exact wr Y<|Wp.dt (ds:=[jD V.length,jD vs.length]) rfl af a0B<|wo Y (ax ao Y)<|e_ (d:= .sl (a.map Hn.r)) rfl rfl rfl<|wo Y (au (xm _))<|b_ Y (cJ (hs:=a) a0B a0B a [] rfl a0B ih)
theorem aD7:∀m≤3,∀k≤3,(aP 104 k).foldl pS (aP 104 m)=aP 104 (max m k):=a0I
theorem Uc{ar:a0f}{x:Cx}(hx:eu ar x):Rn F X 143 0 x.cm.r (·=[.sl (strs (gK ar x.i))]):=by
 obtain⟨_,ints,tables,al,h1,h2,h3,h4,h5,h6,h7,⟨v0,ov,e0⟩,h9⟩:=hx.f.comps _ _ hx.c;have aR:=hx.f.ji al (xu h4);have ku:∀v∈x.cm.aS,v.map (·.name)=aP 104 v.length:=fun v hv=>by
  refine List.ext_getElem? fun k=> ?_
  rw[aP,xx,xx];by_cases hk:k<v.length
  ·rw[xc hk,List.getElem?_range hk];exact congrArg some ((h9 v hv).2.2 k _ (xc hk)).name
  ·rw[List.getElem?_eq_none a0B,List.getElem?_eq_none (by rw[List.length_range];omega)];rfl
 have bi1:∀(vs:a0y),(∀v∈vs,v∈x.cm.aS)->∀m≤al.length,∃k≤al.length,vs.foldl (fun l v=>(v.map (·.name)).foldl pS l) (aP 104 m)=aP 104 k/\m<=k/\∀v∈vs,v.length<=k:=by
  intro vs
  induction vs with
  |nil=>exact fun _ m hm=>⟨m,hm,rfl,xk _,fun v h=>nomatch h⟩
  |cons v vs ih=>
   intro hv m hm;have hvv:=hv v xn;have QC:=(h9 v hvv).2.1;obtain⟨k,k1,k2,k3,k4⟩:=ih (fun w hw=>hv w (xo _ hw)) (max m v.length) a0B;refine⟨k,k1,?_,a0B,fun w hw=> ?_⟩
   ·rw[List.foldl_cons,ku v hvv,aD7 m a0B v.length a0B,k2]
   ·rcases xG.1 hw with rfl|hw
    ·omega
    ·exact k4 w hw
 obtain⟨k,k1,k2,_,k4⟩:=bi1 x.cm.aS (fun _ h=>h) 0 (xL _);have hk:k=al.length:=by have:=k4 v0 ov;omega
 subst hk;have:=dA (X:=X) (vs:=x.cm.aS) a0B x.cm.aS [] rfl (fun v hv=>by have:=(h9 v hv).2.1;omega) (out:=[]) (by show 0+_<=_;omega);rw[show([]:a0s)=aP 104 0 from Y,k2] at this;have e:gK ar x.i=aP 104 al.length:=by unfold gK;rw[h4];rfl
 rw[e];exact wr Y<|wo Y (au (xm _))<|wj this
theorem Ym{f:dj}(hl:f.comps.length<=1000){s:aq}:∀(aa V:List Cm) (v:Nat),f.comps=V++aa->cq (aa.map (·.name)) s=some v->Rn F X 147 1 [.str s,.sl (f.comps.map Cm.r),jD f.comps.length,jD V.length] (·=[jD (v+V.length)])
 |[],V,v,hp,h=>nomatch h
 |a::aa,V,v,hp,h=>by
  have aL:=gP hp;have ao:(f.comps.map Cm.r)[V.length]? =some a.r:=mu hp;have h:(if a.name=s then some 0 else(cq (aa.map (·.name)) s).map (· +1))=some v:=h;obtain⟨an,av,HF⟩:=a;refine wr Y<|Wp.dt (ds:=[jD V.length,jD f.comps.length]) rfl af a0B<|wo Y (ax ao Y)<|o_ (l:=[.str an,.sl (av.map Vr.r),.sl (pd HF)]) rfl rfl rfl<|d_ (ds:=[.str an,.str s]) rfl jk (fun e=> ?_) (fun e=> ?_)
  ·rw[i_ e] at h;cases h;exact wt Y (by rw[Nat.zero_add])
  ·rw[j_ e] at h;obtain⟨w,h1,rfl⟩:=xp.1 h;have ih:=Ym hl aa (V++[⟨an,av,HF⟩]) w (gi hp) h1;rw[xa] at ih;refine wo Y oA<|b_ Y (ih.mono fun o h=> ?_);rw[h,List.length_singleton,Nat.add_right_comm,Nat.add_assoc]
theorem al7{f:dj}(hl:f.comps.length<=1000){s:aq}{v:Nat}(h:cq (f.comps.map (·.name)) s=some v):Rn F X 147 0 (f.r++[.str s]) (·=[jD v]):=by
 exact wr Y<|wo Y (au (xm _))<|wj (Ym hl f.comps [] v rfl h)
theorem rh1{l:a0s}(hl:l.length<=1000){s:aq}:∀(aa V:a0s) (v:Nat),l=V++aa->cq aa s=some v->Rn F X 148 1 [.str s,.sl (strs l),jD l.length,jD V.length] (·=[jD (v+V.length)])
 |[],V,v,hp,h=>nomatch h
 |a::aa,V,v,hp,h=>by
  have aL:=gP hp;have ao:(strs l)[V.length]? =some [.str a]:=mu hp;have h:(if a=s then some 0 else(cq aa s).map (· +1))=some v:=h;refine wr Y<|Wp.dt (ds:=[jD V.length,jD l.length]) rfl af a0B<|wo Y (ax ao Y)<|e_ (d:= .str a) rfl rfl rfl<|d_ (ds:=[.str a,.str s]) rfl jk (fun e=> ?_) (fun e=> ?_)
  ·rw[i_ e] at h;cases h;exact wt Y (by rw[Nat.zero_add])
  ·rw[j_ e] at h;obtain⟨w,h1,rfl⟩:=xp.1 h;have ih:=rh1 hl aa (V++[a]) w (gi hp) h1;rw[xa] at ih;refine wo Y oA<|b_ Y (ih.mono fun o h=> ?_);rw[h,List.length_singleton,Nat.add_right_comm,Nat.add_assoc]
theorem RI{ar:a0f}{x:Cx}(hx:eu ar x){s:aq}{v:Nat}(h:cq (gK ar x.i) s=some v):Rn F X 148 0 (x.cm.r++[.str s]) (·=[jD v]):=by
 have hl:(gK ar x.i).length<=1000:=by
  obtain⟨_,ints,tables,al,_,_,_,h4,_⟩:=hx.f.comps _ _ hx.c;have:=hx.f.ji al (xu h4);unfold gK;rw[Fx,h4];show al.length<=1000;omega
 exact wr Y<|wl Y (Uc hx) rfl<|wo Y (au (kT _))<|b_ Y (rh1 hl _ [] v rfl h)
theorem nm3{i:Nat}{s nm:aq}{L lk cs:a0b}{mA:List Fg}(hf:mA.length<=2){j n:Nat}(hj:j<=1000000){Q:a0d->Prop}:∀(aa V:List Fg),mA=V++aa->∀{out:a0i},out.length+aa.length<=1000000->
 (Rn F X 149 1 [jD i,.sl (ei (bw out ((mt s V.length (aa.map (·.name))).map fun k=>⟨4,(k:Nat),0⟩))),.sl L,jD n,jD (j+1),.str nm,.sl (mA.map Fg.d),.sl lk,.sl cs] Q)->
 Rn F X 149 3 [jD i,.sl (ei out),.str s,.sl L,jD n,jD j,.sl (mA.map Fg.d),jD mA.length,jD V.length,.str nm,.sl lk,.sl cs] Q
 |[],V,hp,out,ho,K=>by
  have hl:=iH hp;exact wr Y<|Wp.c8 (ds:=[jD V.length,jD mA.length]) rfl af a0B<|wo Y oA<|wj K
 |⟨vn,vb⟩::aa,V,hp,out,ho,K=>by
  have hl:=gP hp;have ao:(mA.map Fg.d)[V.length]? =some [.str vn,.bool vb]:=mu hp;rw[xi] at ho;have ih:=fun{out'} iY=>nm3 (i:=i) (s:=s) (nm:=nm) (L:=L) (lk:=lk) (cs:=cs) hf (j:=j) (n:=n) hj (Q:=Q) aa (V++[⟨vn,vb⟩]) (gi hp) (out:=out') iY
  rw[xa] at ih;have K:Rn F X 149 1 [jD i,.sl (ei (bw out (((if vn=s then[V.length] else[])++mt s (V.length+1) (aa.map (·.name))).map fun k=>⟨4,(k:Nat),0⟩))),.sl L,jD n,jD (j+1),.str nm,.sl (mA.map Fg.d),.sl lk,.sl cs] Q:=K;have key:Wp F X 149 (.br (.bin .eql 3) [cd 13,cd 2] aM8 (.op (.bin .add 0) [cd 8,.int .i64 1] aw8)) [jD i,.sl (ei out),.str s,.sl L,jD n,jD j,.sl (mA.map Fg.d),jD mA.length,jD V.length,.str nm,.sl lk,.sl cs,.ptr [.str vn,.bool vb] 0,.str vn,.bool vb] Q:=by
   refine d_ (ds:=[.str vn,.str s]) rfl jk (fun e=> ?_) (fun e=> ?_)
   ·rw[i_ e] at K;have:=L5 (n:=⟨4,(V.length:Nat),0⟩) (l:=out);exact wl Y (tG a0B ⟨4,(V.length:Nat),0⟩) rfl<|wo Y oA<|b_ Y (ih (out':=qy out ⟨4,(V.length:Nat),0⟩) a0B K)
   ·rw[j_ e] at K;exact wo Y oA<|b_ Y (ih a0B K)
  refine wr Y<|Wp.dt (ds:=[jD V.length,jD mA.length]) rfl af a0B<|wo Y (ax ao Y) ?_;cases vb with
  |true=>exact o_ (l:=[.str vn,.bool true]) rfl rfl rfl key
  |false=>exact Wp.SZ (l:=[.str vn,.bool false]) rfl rfl rfl (o_ (l:=[.str vn,.bool false]) rfl rfl rfl key)
theorem nm2{i:Nat}{s nm:aq}{L lk cs:a0b}{Bn:List Vr}(hv:Bn.length<=5){mA:List Fg}(hf:mA.length<=2){j n:Nat}(hj:j<=1000000){Q:a0d->Prop}:∀(aa V:List Vr),Bn=V++aa->∀{out:a0i},out.length+aa.length+2<=1000000->
 (Rn F X 149 1 [jD i,.sl (ei (bw (bw out ((mt s V.length (aa.map (·.name))).map fun k=>⟨1,(i:Nat),(k:Nat)⟩)) ((mt s 0 (mA.map (·.name))).map fun k=>⟨4,(k:Nat),0⟩))),.sl L,jD n,jD (j+1),.str nm,.sl (mA.map Fg.d),.sl lk,.sl cs] Q)->
 Rn F X 149 2 [jD i,.sl (ei out),.str s,.sl L,jD n,jD j,.sl (Bn.map Vr.r),jD Bn.length,jD V.length,.str nm,.sl (mA.map Fg.d),.sl lk,.sl cs] Q
 |[],V,hp,out,ho,K=>by
  have hl:=iH hp;exact wr Y<|Wp.c8 (ds:=[jD V.length,jD Bn.length]) rfl af a0B<|wo Y (au (xm _))<|b_ Y (nm3 hf hj mA [] rfl (by simp at ho;omega) K)
 |a::aa,V,hp,out,ho,K=>by
  have hl:=gP hp;have ao:(Bn.map Vr.r)[V.length]? =some a.r:=mu hp;rw[xi] at ho;have ih:=fun{out'} iY=>nm2 (i:=i) (s:=s) (nm:=nm) (L:=L) (lk:=lk) (cs:=cs) hv hf (j:=j) (n:=n) hj (Q:=Q) aa (V++[a]) (gi hp) (out:=out') iY
  rw[xa] at ih;obtain⟨vn,vt,vi⟩:=a;have K:Rn F X 149 1 [jD i,.sl (ei (bw (bw out (((if vn=s then[V.length] else[])++mt s (V.length+1) (aa.map (·.name))).map fun k=>⟨1,(i:Nat),(k:Nat)⟩)) ((mt s 0 (mA.map (·.name))).map fun k=>⟨4,(k:Nat),0⟩))),.sl L,jD n,jD (j+1),.str nm,.sl (mA.map Fg.d),.sl lk,.sl cs] Q:=K;refine wr Y<|Wp.dt (ds:=[jD V.length,jD Bn.length]) rfl af a0B<|wo Y (ax ao Y)<|o_ (l:=[.str vn,Fl.iD vt,Fl.iD vi]) rfl rfl rfl<|d_ (ds:=[.str vn,.str s]) rfl jk (fun e=> ?_) (fun e=> ?_)
  ·rw[i_ e] at K;have:=L5 (n:=⟨1,(i:Nat),(V.length:Nat)⟩) (l:=out);exact wl Y (tG a0B ⟨1,(i:Nat),(V.length:Nat)⟩) rfl<|wo Y oA<|b_ Y (ih (out':=qy out ⟨1,(i:Nat),(V.length:Nat)⟩) a0B K)
  ·rw[j_ e] at K;exact wo Y oA<|b_ Y (ih a0B K)
end
section
variable{X:a0a}{ar:a0f}{x:Cx}
theorem RQ{l:a0s}{s:aq}{v:Nat}:cq l s=some v->s∈l:=by
 induction l generalizing v with
 |nil=>exact fun h=>nomatch h
 |cons a l ih=>
  intro h;have h:(if a=s then some 0 else(cq l s).map (· +1))=some v:=h;split at h
  ·rename_i e;exact e▸xn
  ·obtain⟨w,h1,_⟩:=xp.1 h;exact xo _ (ih h1)
theorem aE8(hx:eu ar x){s:aq}(h:s∈x.vn):∃c k,s=nm c k/\(c=120\/c=98\/c=116)/\k<3:=by
 obtain⟨_,ints,tables,al,h1,h2,h3,h4,h5,h6,h7,h8,h9⟩:=hx.f.comps _ _ hx.c;unfold Cx.vn at h;rw[h5,List.map_append,List.map_cons,xF,xG,List.map_map,List.map_map] at h;rcases h with h|rfl|h
 ·obtain⟨k,hk,rfl⟩:=xJ.1 h;exact⟨120,k,rfl,.inl Y,by have:=List.mem_range.1 hk;omega⟩
 ·exact⟨98,0,rfl,.inr (.inl Y),a0B⟩
 ·obtain⟨k,hk,rfl⟩:=xJ.1 h;exact⟨116,k,rfl,.inr (.inr Y),by have:=List.mem_range.1 hk;omega⟩
theorem aV1(hx:eu ar x):x.vn.Nodup:=by
 obtain⟨_,ints,tables,al,h1,h2,h3,h4,h5,h6,h7,h8,h9⟩:=hx.f.comps _ _ hx.c;have e:x.vn=aP 120 ints++nm 98 0::aP 116 tables:=by
  unfold Cx.vn aP;rw[h5,List.map_append,List.map_cons,List.map_map,List.map_map];rfl
 have key:∀a≤3,∀b≤1,(aP 120 a++nm 98 0::aP 116 b).Nodup:=a0I
 rw[e];exact key ints h2 tables h3
theorem be6(hx:eu ar x):x.fn.Nodup:=by
 have hf:=hx.f.flags;have e:x.fn=aP 102 x.f.flags.length:=by
  unfold Cx.fn;refine List.ext_getElem? fun k=> ?_
  rw[aP,xx,xx];by_cases hk:k<x.f.flags.length
  ·rw[xc hk,List.getElem?_range hk];exact congrArg some (hf.2 k _ (xc hk))
  ·rw[List.getElem?_eq_none a0B,List.getElem?_eq_none (by rw[List.length_range];omega)];rfl
 rw[e];exact Vj a0B a0B
theorem aU9(hx:eu ar x){s:aq}(h:s∈x.fn):∃k,k<2/\s=nm 102 k:=by
 obtain⟨g,hg,rfl⟩:=xJ.1 h;obtain⟨k,hk⟩:=qf hg;have:=(xe.1 hk).1;have:=hx.f.flags.1;exact⟨k,a0B,hx.f.flags.2 k g hk⟩
theorem be4(hx:eu ar x)(s:aq):rN x s=((mt s 0 x.vn).map fun k=>(⟨1,(x.i:Nat),(k:Nat)⟩:Nd))++(mt s 0 x.fn).map fun k=>(⟨4,(k:Nat),0⟩:Nd):=by
 rw[MJ (aV1 hx),MJ (be6 hx)];unfold rN;cases hv:cq x.vn s with
 |some v=>
  cases hf:cq x.fn s with
  |some k=>
   obtain⟨c,j,e1,e2,e3⟩:=aE8 hx (RQ hv);obtain⟨q,e4,e5⟩:=aU9 hx (RQ hf);have:=(qW a0B a0B a0B a0B (e1.symm.trans e5)).1;omega
  |none=>rfl
 |none=>
  cases hf:cq x.fn s with
  |some k=>rfl
  |none=>rfl
theorem Q8(l a b:a0i):bw (bw l a) b=bw l (a++b):=(List.foldl_append ..).symm
theorem Uh(hx:eu ar x)(s:aq):(rN x s).length<=1:=by
 unfold rN;split
 ·exact xk _
 ·split
  ·exact xk _
  ·exact xL _
def kV(x:Cx)(L:a0s):a0i:=L.flatMap (rN x)
theorem nm1(hx:eu ar x){L:a0s}(hl:L.length<=500000):∀(aa V:a0s),L=V++aa->∀{out:a0i},l7 out->out.length<=V.length->
 Rn F X 149 1 [jD x.i,.sl (ei out),.sl (strs L),jD L.length,jD V.length,.str x.f.name,.sl (x.f.flags.map Fg.d),.sl (x.f.links.map Lk.d),.sl (x.f.comps.map Cm.r)] (·=[.sl (ei (bw out (kV x aa)))])
 |[],V,hp,out,hA,ho=>by
  have hl:=iH hp;exact wr Y<|wn Y af<|wt Y Y
 |s::aa,V,hp,out,hA,ho=>by
  have aL:=gP hp;have ao:(strs L)[V.length]? =some [.str s]:=mu hp;have gR:(x.f.comps.map Cm.r)[x.i]? =some x.cm.r:=by rw[xx,hx.c];rfl
  have hf:=hx.f.flags.1;obtain⟨q1,q2,q3⟩:=Ca (rN x s) out hA;have:=Uh hx s;have ih:=nm1 hx hl aa (V++[s]) (gi hp) (out:=bw out (rN x s)) q1 (by rw[xa,List.length_singleton];omega);rw[xa,Q8] at ih;have ih:Rn F X 149 1 [jD x.i,.sl (ei (bw out (rN x s))),.sl (strs L),jD L.length,jD (V.length+1),.str x.f.name,.sl (x.f.flags.map Fg.d),.sl (x.f.links.map Lk.d),.sl (x.f.comps.map Cm.r)] (·=[.sl (ei (bw out (kV x (s::aa))))]):=ih;rw[show kV x (s::aa)=rN x s++kV x aa from Y] at ih;rw[show bw out (rN x s)=bw (bw out ((mt s 0 x.vn).map fun k=>(⟨1,(x.i:Nat),(k:Nat)⟩:Nd))) ((mt s 0 x.fn).map fun k=>(⟨4,(k:Nat),0⟩:Nd)) by rw[Q8,<-be4 hx]] at ih;have st:=nm2 (X:=X) (i:=x.i) (s:=s) (nm:=x.f.name) (L:=strs L) (lk:=x.f.links.map Lk.d) (cs:=x.f.comps.map Cm.r) (Ci hx) hf (j:=V.length) (n:=L.length) a0B x.cm.vars [] rfl (out:=out) (by have:=Ci hx;omega) ih;exact wr Y<|wy Y af<|wo Y (ax ao Y)<|wg 1 Y<|wo Y (ax gR rfl)<|wg 2 Y<|wo Y (au (xm _))<|wj st
theorem KD(hx:eu ar x){L:a0s}(hl:L.length<=500000):Rn F X 149 0 (x.f.r++[jD x.i,.sl (strs L)]) (·=[.sl (ei (bw [] (kV x L)))]):=by
 exact wr Y<|wo Y (au (kT _))<|b_ Y (nm1 hx hl L [] rfl (out:=[]) .nil (xk _))
end
end Go.Proofs.YthicpeihkkokmaaGreatDoor
namespace Go.Fl
def Ur.len(u:Ur):Nat:=u.R.length+u.W.length+u.S.length+u.T.length
def Ur.gL(u:Ur)(uz:List Us):Ur:=uz.foldl Ur.add u
theorem Ur.su(u:Ur)(a b:List Us):u.gL (a++b)=(u.gL a).gL b:=List.foldl_append ..
theorem Ur.z3(u:Ur)(uz:List Us):(u.gL uz).len<=u.len+uz.length:=(Ur.Pp uz u).n
end Go.Fl
namespace Go.Proofs.YthicpeihkkokmaaGreatDoor
open Go.Ex Go.RowKit Go.Sort Go.Fl
section
variable{X:a0a}
theorem Cf{l:a0s}(hl:l.length<=1000000)(s:aq):aF (.app 1 16) [.sl (strs l),.sl [[.str s]]]=some (.sl (strs (l++[s]))):=by
 rw[gb (es:=1) (row:=[.str s]) rfl rfl (by rw[kT];omega) (by rw[kT];omega)];unfold strs;rw[List.map_append];rfl
theorem aa1{e:Fl.Ex}(he:jo gO e):∀{u:Ur},u.len+e.sz<=1000000->Rn F X 144 0 (u.d++e.r) (·=(u.gL (Ex.us e)).d):=by
 induction he with
 | @mk op name n args hn ha ih=>
  intro u hu;obtain⟨h1,h2,h3,h4,h5⟩:=hn.get;have dY:jr op<=2:=by unfold jr;split<;>(try split)<;>omega
  have loop:∀(aa V:List Fl.Ex),args=V++aa->∀{u:Ur},u.len+Ex.fF aa<=1000000->Rn F X 144 1 ([.sl (Ex.rs args),jD args.length,jD V.length]++u.d) (·=(u.gL (Ex.cg aa)).d):=by
   intro aa
   induction aa with
   |nil=>
    intro V hp u hu;have hl:=iH hp;exact wr Y<|wn Y af<|wt Y Y
   |cons a aa dO=>
    intro V hp u hu;have hl:=gP hp;have ao:(Ex.rs args)[V.length]? =some a.r:=by rw[hp];exact JE _ _ _
    have hu:u.len+(a.sz+Ex.fF aa)<=1000000:=hu;have c:=ih a (by rw[hp];simp) (u:=u) a0B;have n1:=u.z3 (Ex.us a);have n3:=Ex.CG a;have n2:=dO (V++[a]) (gi hp) (u:=u.gL (Ex.us a)) a0B;rw[xa,<-Ur.su] at n2;obtain⟨Ee,C5,n',args'⟩:=a;exact wr Y<|wy Y af<|wo Y (ax ao Y)<|wg 1 Y<|wl Y c rfl<|wo Y oA<|wj n2
  have hu:u.len+(Ex.fF args+1)<=1000000:=hu;refine wr Y ?_;rw[Ex.us,Ur.su];refine d_ (ds:=[.str name,.str []]) rfl aB5 (fun e=> ?_) (fun e=> ?_)
  ·rw[j_ e];have hR:u.R.length<=1000000:=by unfold Ur.len at hu;omega
   refine wg 2 Y<|wo Y (Cf hR name) ?_;have:=loop args [] rfl (u:=u.add (.rd name)) (by show(u.R++[name]).length+u.W.length+u.S.length+u.T.length+Ex.fF args<=_;unfold Ur.len at hu;rw[xa,List.length_singleton];omega);exact wo Y (au (qV _))<|wj this
  ·rw[i_ (Decidable.of_not_not e)];exact wo Y (au (qV _))<|b_ Y (loop args [] rfl a0B)
theorem VI{S:a0q}(hS:S.length<=1000000)(s:St):∃rows,aF (.app 6 112) [.sl (St.rs S),.sl [[Fl.iD 0,.str [],.str [],.sl [],.sl [],.sl []]]]=some (.sl rows)/\aF .iO [.sl rows,jD S.length]=some (.bool true)/\aF (.kj 0) (.sl rows::jD S.length::s.r)=some (.sl (St.rs (S++[s]))):=by
 refine⟨St.rs S++[[Fl.iD 0,.str [],.str [],.sl [],.sl [],.sl []]],gb (es:=6) rfl rfl (by rw[nC];omega) (by rw[nC];omega),?_,?_⟩
 ·rw[nZ (n:=S.length+1) (by rw[xa,nC];rfl),u_ (Nat.lt_succ_self _)]
 ·rw[z8 (r:=[Fl.iD 0,.str [],.str [],.sl [],.sl [],.sl []]) (by rw[xq (by rw[nC];exact xk _),nC,Nat.sub_self];rfl) (by obtain⟨_,_,_,_,_,_⟩:=s;rfl),List.set_append_right _ _ (by rw[nC];exact xk _),nC,Nat.sub_self,<-NM];rfl
theorem aG0{k:Nat}{n h:aq}{es:List Fl.Ex}{th el:a0q}{u:Ur}(hu:u.len+3<=1000000){L:a0b}{ln j ne:Nat}(hj:j<=1000000){Q:a0d->Prop}{u2 u3:Ur}
 (T1:Rn F X 145 0 ((u.gL (cZ (.mk k n h es th el) n k)).d++[.sl (St.rs th)]) (·=u2.d)) (T2:Rn F X 145 0 (u2.d++[.sl (St.rs el)]) (·=u3.d)) (K:Rn F X 145 1 ([.sl L,jD ln,jD (j+1)]++u3.d) Q):
 Wp F X 145 aB2 ([.sl L,jD ln,jD j,.sl (Ex.rs es),jD ne,jD ne]++u.d++[Fl.iD k,.str n,.str h,.sl (St.rs th),.sl (St.rs el)]) Q:=by
 have hR:u.R.length<=1000000:=by unfold Ur.len at hu;omega
 have hW:u.W.length<=1000000:=by unfold Ur.len at hu;omega
 have hS:u.S.length<=1000000:=by unfold Ur.len at hu;omega
 have hT:u.T.length<=1000000:=by unfold Ur.len at hu;omega
 have two:k=2\/k=3->Wp F X 145 (.note ⟨.own 0,[],J⟩ aB4) ([.sl L,jD ln,jD j,.sl (Ex.rs es),jD ne,jD ne]++u.d++[Fl.iD k,.str n,.str h,.sl (St.rs th),.sl (St.rs el)]) Q:=fun hk=>by
  have T1:Rn F X 145 0 ((u.gL [.rd n,.wr n]).d++[.sl (St.rs th)]) (·=u2.d):=by rcases hk with rfl|rfl<;>exact T1
  refine wg 2 Y<|wo Y (Cf hR n)<|wg 2 Y<|wo Y (Cf hW n)<|wg 1 Y ?_;dsimp only [Ur.d,c_,n_];refine wL Y T1 rfl<|wg 1 Y ?_;dsimp only [Ur.d,c_,n_];exact wL Y T2 rfl<|wo Y oA<|wj K
 refine d_ (ds:=[Fl.iD k,Fl.iD 1]) rfl ay (fun e=> ?_) (fun e1=> ?_)
 ·obtain rfl:k=1:=a0B
  refine wg 2 Y<|wo Y (Cf hW n)<|wg 1 Y ?_;dsimp only [Ur.d,c_,n_];refine wL Y T1 rfl<|wg 1 Y ?_;dsimp only [Ur.d,c_,n_];exact wL Y T2 rfl<|wo Y oA<|wj K
 refine d_ (ds:=[Fl.iD k,Fl.iD 2]) rfl ay (fun e=>two a0B) (fun e2=> ?_);refine d_ (ds:=[Fl.iD k,Fl.iD 3]) rfl ay (fun e=>two a0B) (fun e3=> ?_);clear two;refine d_ (ds:=[Fl.iD k,Fl.iD 6]) rfl ay (fun e=> ?_) (fun e6=> ?_)
 ·obtain rfl:k=6:=a0B
  obtain⟨rows,a1,a2,a3⟩:=VI hS (.mk 6 n h es th el);refine wo Y (au (nC _))<|wg 2 Y<|wo Y a1<|Wp.nz Y a2<|wo Y a3<|wg 1 Y ?_;dsimp only [Ur.d,c_,n_];refine wL Y T1 rfl<|wg 1 Y ?_;dsimp only [Ur.d,c_,n_];exact wL Y T2 rfl<|wo Y oA<|wj K
 refine d_ (ds:=[Fl.iD k,Fl.iD 7]) rfl ay (fun e=> ?_) (fun e7=> ?_)
 ·obtain rfl:k=7:=a0B
  obtain⟨rows,a1,a2,a3⟩:=VI hT (.mk 7 n h es th el);refine wo Y (au (nC _))<|wg 2 Y<|wo Y a1<|Wp.nz Y a2<|wo Y a3<|wg 1 Y ?_;dsimp only [Ur.d,c_,n_];refine wL Y T1 rfl<|wg 1 Y ?_;dsimp only [Ur.d,c_,n_];exact wL Y T2 rfl<|wo Y oA<|wj K
 refine d_ (ds:=[Fl.iD k,Fl.iD 8]) rfl ay (fun e=> ?_) (fun e8=> ?_)
 ·obtain rfl:k=8:=a0B
  refine wl Y T1 rfl<|wg 1 Y ?_;dsimp only [Ur.d,c_,n_];exact wL Y T2 rfl<|wo Y oA<|wj K
 refine d_ (ds:=[Fl.iD k,Fl.iD 9]) rfl ay (fun e=> ?_) (fun e9=> ?_)
 ·obtain rfl:k=9:=a0B
  refine wg 2 Y<|wo Y (Cf hR n)<|wg 2 Y<|wo Y (Cf hW n)<|wg 1 Y ?_;dsimp only [Ur.d,c_,n_];refine wL Y T1 rfl<|wg 1 Y ?_;dsimp only [Ur.d,c_,n_];exact wL Y T2 rfl<|wo Y oA<|wj K
 have T1:Rn F X 145 0 (u.d++[.sl (St.rs th)]) (·=u2.d):=by
  have e:cZ (.mk k n h es th el) n k=[]:=by
   unfold cZ;split<;>first|omega|rfl
  rw[e] at T1;exact T1
 refine wl Y T1 rfl<|wg 1 Y ?_;dsimp only [Ur.d,c_,n_];exact wL Y T2 rfl<|wo Y oA<|wj K
theorem aa7{l:a0q}(hl:l.length<=12)(h:∀s∈l,dL jy s):∀{u:Ur},u.len+200*St.ns l<=900000->Rn F X 145 0 (u.d++[.sl (St.rs l)]) (·=(u.gL (St.eX l)).d):=by
 revert hl
 have:∀s∈l,dL (fun s=>jy s/\dL jy s) s:=fun s hs=>by
  have:=h s hs;clear h hs
  induction this with
  |mk h h1 h2 i1 i2=>exact .mk ⟨h,.mk h h1 h2⟩ i1 i2
 refine dL.eY (P:=fun l=>l.length<=12->∀{u:Ur},u.len+200*St.ns l<=900000->Rn F X 145 0 (u.d++[.sl (St.rs l)]) (·=(u.gL (St.eX l)).d)) ?_ this;clear this h l;intro l h hl u hu;have loop:∀(aa V:a0q),l=V++aa->∀{u:Ur},u.len+200*St.ns aa<=900000->Rn F X 145 1 ([.sl (St.rs l),jD l.length,jD V.length]++u.d) (·=(u.gL (St.eX aa)).d):=by
  intro aa
  induction aa with
  |nil=>
   intro V hp u hu;have hl:=iH hp;exact wr Y<|wn Y af<|wt Y Y
  |cons a aa cS=>
   intro V hp u hu;have aE:=gP hp;have ao:(St.rs l)[V.length]? =some a.r:=by rw[hp];exact I7 _ _ _
   obtain⟨⟨ha,hA⟩,hs⟩:=h a (by rw[hp];simp);have aR:=(CG hA).2;have hu:u.len+200*(a.n+St.ns aa)<=900000:=hu;have next:=fun{u':Ur} PT=>cS (V++[a]) (gi hp) (u:=u') PT
   rw[xa] at next;obtain⟨k,n,hd,es,th,el⟩:=a;have ha:Dr k n hd es th el:=ha;obtain⟨dA,cJ⟩:=hs;have fI:es.length<=3:=by have:=ha.ln;omega
   have h3:=WJ (.mk k n hd es th el) n k;cases hA with
   |mk _ kM bh8=>
   have lt:=(tD kM).2;have ll:=(tD bh8).2;have aV:Ex.fF es<=189:=by
    have h1:=Ex.X4 fun a hm=>(ha.ex a hm).1.LS (ha.ex a hm).2
    have h4:es.length*63<=3*63:=xD _ a0B;omega
   simp only [St.n] at hu;have Aq:∀(bW bh:List Fl.Ex),es=bh++bW->∀{u:Ur},u.len+Ex.fF bW+3+200*(St.ns th+St.ns el+St.ns aa)<=900000->Rn F X 145 2 ([.sl (St.rs l),jD l.length,jD V.length,.sl (Ex.rs es),jD es.length,jD bh.length]++u.d++[Fl.iD k,.str n,.str hd,.sl (St.rs th),.sl (St.rs el)]) (·=(u.gL (Ex.cg bW++(cZ (.mk k n hd es th el) n k++(St.eX th++(St.eX el++St.eX aa))))).d):=by
    intro bW
    induction bW with
    |nil=>
     intro bh aO u hu;rw[xj] at aO;subst aO;have hu:u.len+0+3+200*(St.ns th+St.ns el+St.ns aa)<=900000:=hu;have n1:=u.z3 (cZ (.mk k n hd es th el) n k);have n2:=(u.gL (cZ (.mk k n hd es th el) n k)).z3 (St.eX th);have n3:=((u.gL (cZ (.mk k n hd es th el) n k)).gL (St.eX th)).z3 (St.eX el);refine wr Y<|wn Y af ?_;have K:=next (u':=((u.gL (cZ (.mk k n hd es th el) n k)).gL (St.eX th)).gL (St.eX el)) a0B;rw[<-Ur.su,<-Ur.su,<-Ur.su] at K;refine aG0 a0B a0B (dA ha.tl (u:=u.gL (cZ (.mk k n hd es th el) n k)) a0B) (cJ ha.ll (u:=(u.gL (cZ (.mk k n hd es th el) n k)).gL (St.eX th)) a0B) ?_;rw[<-Ur.su,<-Ur.su];rw[a_ (cZ (.mk k n hd es th el) n k),a_ (St.eX th)] at K;exact K
    |cons e bW dO=>
     intro bh aO u hu;have r9:=gP aO;have gR:(Ex.rs es)[bh.length]? =some e.r:=by rw[aO];exact JE _ _ _
     have hu:u.len+(e.sz+Ex.fF bW)+3+200*(St.ns th+St.ns el+St.ns aa)<=900000:=hu;have n1:=u.z3 (Ex.us e);have n2:=Ex.CG e;have c:=aa1 (X:=X) (ha.ex e (by rw[aO];simp)).1 (u:=u) a0B;have yo:=dO (bh++[e]) (gi aO) (u:=u.gL (Ex.us e)) a0B;rw[xa,<-Ur.su] at yo;rw[show Ex.cg (e::bW)++(cZ (.mk k n hd es th el) n k++(St.eX th++(St.eX el++St.eX aa)))=Ex.us e++(Ex.cg bW++(cZ (.mk k n hd es th el) n k++(St.eX th++(St.eX el++St.eX aa)))) from a_ ..];obtain⟨Ee,C5,n',args'⟩:=e;refine wr Y<|wy Y af<|wo Y (ax gR rfl)<|wg 2 Y ?_;dsimp only [Ur.d,c_,n_];refine wL Y c rfl ?_;dsimp only [Ur.d,c_,n_];exact wo Y oA<|wj yo
   refine wr Y<|wy Y af<|wo Y (ax ao Y)<|wg 1 Y ?_;have e4:St.eX (⟨k,n,hd,es,th,el⟩::aa)=Ex.cg es++(cZ (.mk k n hd es th el) n k++(St.eX th++(St.eX el++St.eX aa))):=by
    simp only [St.eX,St.ur,a_]
   rw[e4];exact wo Y (au (qV _))<|b_ Y (Aq es [] rfl a0B)
 exact wr Y<|wo Y (au (nC _))<|wj (loop l [] rfl hu)
def pw(vs:a0y)(s:aq):List Us:=vs.flatMap fun v=>v.flatMap fun h=>if h.name=s then St.eX h.body else[]
def Gy(v:List Hn)(s:aq):List Us:=v.flatMap fun h=>if h.name=s then St.eX h.body else[]
structure HnU (h:Hn):Prop where
 ss:∀s∈h.body,dL jy s
 l:h.body.length<=12
 n:St.ns h.body<=12
theorem X2{s:aq}{vr:a0b}{n i:Nat}(hi:i<=100){hs:List Hn}(hl:hs.length<=100){Q:a0d->Prop}:∀(aa V:List Hn),hs=V++aa->(∀h∈aa,HnU h)->∀{u:Ur},u.len+2400*aa.length<=800000->
 Rn F X 146 1 ([.str s,.sl vr,jD n,jD (i+1)]++(u.gL (Gy aa s)).d) Q->
 Rn F X 146 2 ([.str s,.sl vr,jD n,jD i,.sl (hs.map Hn.r),jD hs.length,jD V.length]++u.d) Q
 |[],V,hp,_,u,hu,K=>by
  have aL:=iH hp;exact wr Y<|wn Y af<|wo Y oA<|wj K
 |a::aa,V,hp,hh,u,hu,K=>by
  have aL:=gP hp;have ao:(hs.map Hn.r)[V.length]? =some a.r:=mu hp;have ha:=hh a xn;have han:=ha.n;have hb:=(tD ha.ss).2;rw[xi] at hu;have n1:=u.z3 (St.eX a.body);have ih:=fun{u':Ur} PT=>X2 (s:=s) (vr:=vr) (n:=n) hi hl (Q:=Q) aa (V++[a]) (gi hp) (fun h hm=>hh h (xo _ hm)) (u:=u') PT
  rw[xa] at ih;have K:Rn F X 146 1 ([.str s,.sl vr,jD n,jD (i+1)]++(u.gL ((if a.name=s then St.eX a.body else[])++Gy aa s)).d) Q:=K;rw[Ur.su] at K;obtain⟨an,ap,ab⟩:=a;have c:=aa7 (X:=X) ha.l ha.ss (u:=u) a0B;refine wr Y<|wy Y af<|wo Y (ax ao Y)<|wg 1 Y<|d_ (ds:=[.str an,.str s]) rfl jk (fun e=> ?_) (fun e=> ?_)
  ·rw[i_ e] at K;refine wg 1 Y ?_;dsimp only [Ur.d,c_,n_];refine wL Y c rfl ?_;dsimp only [Ur.d,c_,n_];exact wo Y oA<|b_ Y (ih (u':=u.gL (St.eX ab)) (by simp only at n1 hb han;omega) K)
  ·rw[j_ e] at K;exact wo Y oA<|b_ Y (ih a0B K)
theorem Yd{s:aq}{vs:a0y}(hl:vs.length<=100):∀(aa V:a0y),vs=V++aa->(∀v∈aa,v.length<=3/\∀h∈v,HnU h)->∀{u:Ur},u.len+7200*aa.length<=800000->
 Rn F X 146 1 ([.str s,.sl (pd vs),jD vs.length,jD V.length]++u.d) (·=(u.gL (pw aa s)).d)
 |[],V,hp,_,u,hu=>by
  have aL:=iH hp;exact wr Y<|wn Y af<|wt Y Y
 |a::aa,V,hp,hh,u,hu=>by
  have aL:=gP hp;have ao:(pd vs)[V.length]? =some [.sl (a.map Hn.r)]:=mu hp;obtain⟨h1,h2⟩:=hh a xn;rw[xi] at hu;have lu:(Gy a s).length<=a.length*2400:=so fun h hm=>by
   have:=h2 h hm;have h3:=(tD this.ss).2;have h4:=this.n;split
   ·omega
   ·exact xL _
  have n1:=u.z3 (Gy a s);have ih:=Yd (s:=s) hl aa (V++[a]) (gi hp) (fun v h=>hh v (xo _ h)) (u:=u.gL (Gy a s)) a0B;rw[xa,<-Ur.su] at ih;refine wr Y<|wy Y af<|wo Y (ax ao Y)<|wg 1 Y<|wo Y (au (xm _))<|b_ Y (X2 (hs:=a) a0B a0B a [] rfl h2 a0B ?_);exact ih
def u0:Ur:=⟨[],[],false,[],[]⟩
theorem aM3{ar:a0f}{x:Cx}(hx:eu ar x)(s:aq):Rn F X 146 0 (x.cm.r++[.str s]) (·=(u0.gL (pw x.cm.aS s)).d):=by
 obtain⟨_,ints,tables,al,h1,h2,h3,h4,h5,h6,h7,h8,h9⟩:=hx.f.comps _ _ hx.c;have aR:=hx.f.ji al (xu h4);refine wr Y<|wo Y (au (xm _))<|b_ Y (Yd (s:=s) (vs:=x.cm.aS) a0B x.cm.aS [] rfl (fun v hv=>⟨by have:=(h9 v hv).2.1;omega,fun h hh=> ?_⟩) (u:=u0) (by show 0+_<=_;omega));have hf:=CR hx hv hh;exact⟨fun s hs=>(hf.ss s hs).mono fun s h=>h.1,xH (mS _) hf.n,hf.n⟩
end
def Yh(e:Nd×Nd):a0d:=e.1.q++e.2.q
def hZ(es:a0h):a0b:=es.map Yh
section
variable{X:a0a}{ar:a0f}{x:Cx}
theorem GU{es:a0h}(hl:es.length<=1000000)(fs:a0h)(hf:fs.length<=3):aF (.app 6 48) [.sl (hZ es),.sl (hZ fs)]=some (.sl (hZ (es++fs))):=by
 have l1:(hZ es).length=es.length:=xm _;have l2:(hZ fs).length=fs.length:=xm _;rw[yg (fun row hr=> ?_) a0B a0B]
 ·unfold hZ;rw[List.map_append]
 ·obtain⟨e,_,rfl⟩:=xJ.1 hr;exact⟨rfl,rfl⟩
theorem vl{ns:a0i}:(bw [] ns).length<=ns.length:=by
 have:=(Ca ns [] .nil).2.2;rw[xd,Nat.zero_add] at this;exact this
theorem yV(ns:a0i)(n:Nd):qy (bw [] ns) n=bw [] (ns++[n]):=by
 unfold bw;rw[List.foldl_append];rfl
abbrev KA(x:Cx)(ns:a0i)(es:a0h)(n:Nat)(hs:a0s)(k:Nat)(M:a0i)(q:Nat)(u:Ur):a0d:=[.sl (ei (bw [] ns)),.sl (hZ es),jD x.i,.sl (x.f.comps.map Cm.r),jD n,.sl (strs hs),jD hs.length,jD k,.sl (ei M),jD M.length,jD q,.str x.f.name,.sl (x.f.flags.map Fg.d),.sl (x.f.links.map Lk.d),.str x.cm.name,.sl (x.cm.vars.map Vr.r),.sl (pd x.cm.aS),.sl (strs u.R),.sl (strs u.W),.sl (St.rs u.S),.sl (St.rs u.T)]
abbrev KB(x:Cx)(ns:a0i)(es:a0h)(n:Nat)(hs:a0s)(k:Nat)(q:Nat)(u:Ur):a0d:=[.sl (ei (bw [] ns)),.sl (hZ es),jD x.i,.sl (x.f.comps.map Cm.r),jD n,.sl (strs hs),jD hs.length,jD k,.sl (St.rs u.S),jD u.S.length,jD q,.str x.f.name,.sl (x.f.flags.map Fg.d),.sl (x.f.links.map Lk.d),.str x.cm.name,.sl (x.cm.vars.map Vr.r),.sl (pd x.cm.aS),.sl (strs u.R),.sl (strs u.W),.sl (St.rs u.T)]
abbrev QF(x:Cx)(ns:a0i)(es:a0h)(n:Nat)(hs:a0s)(k:Nat)(q:Nat)(u:Ur):a0d:=[.sl (ei (bw [] ns)),.sl (hZ es),jD x.i,.sl (x.f.comps.map Cm.r),jD n,.sl (strs hs),jD hs.length,jD k,.sl (St.rs u.T),jD u.T.length,jD q,.str x.f.name,.sl (x.f.flags.map Fg.d),.sl (x.f.links.map Lk.d),.str x.cm.name,.sl (x.cm.vars.map Vr.r),.sl (pd x.cm.aS)]
abbrev KC(x:Cx)(ns:a0i)(es:a0h)(n:Nat)(hs:a0s)(k:Nat):a0d:=[.sl (ei (bw [] ns)),.sl (hZ es),jD x.i,.sl (x.f.comps.map Cm.r),jD n,.sl (strs hs),jD hs.length,jD k,.str x.f.name,.sl (x.f.flags.map Fg.d),.sl (x.f.links.map Lk.d),.str x.cm.name,.sl (x.cm.vars.map Vr.r),.sl (pd x.cm.aS)]
variable{Q:a0d->Prop}{ns:a0i}{n k:Nat}{hs:a0s}{u:Ur}
theorem g5(hx:eu ar x){h:Nat}(hh:h=5\/h=6)(hw:u.W.length<=500000){M:a0i}(hM:M.length<=900000):∀(aa V:a0i),M=V++aa->∀{es:a0h},es.length+M.length<=1000000+V.length->
 Rn F X 150 (h+2) (KA x ns (es++aa.map fun m=>(m,⟨5,(x.i:Nat),(k:Nat)⟩)) n hs k (bw [] (kV x u.W)) 0 u) Q->
 Rn F X 150 h (KA x ns es n hs k M V.length u) Q
 |[],V,hp,es,hb,K=>by
  have hl:=iH hp;rw[List.map_nil,xj] at K;rcases hh with rfl|rfl<;>exact Rn.of (fd:=mM) rfl rfl rfl rfl (Wp.c8 (ds:=[jD V.length,jD M.length]) rfl af a0B (Wp.note (Wp.ig Y (KD hx hw) rfl (e_ Y (au (rW _)) rfl (b_ Y K)))))
 |a::aa,V,hp,es,hb,K=>by
  have hl:=gP hp;have ih:=g5 hx hh hw hM aa (V++[a]) (gi hp) (es:=es++[(a,⟨5,(x.i:Nat),(k:Nat)⟩)]) (by rw[xa,xa];show _+1+_<=_+(_+1);omega) (by rw[a_];exact K);rw[xa] at ih;rcases hh with rfl|rfl<;>exact Rn.of (fd:=mM) rfl rfl rfl rfl (Wp.dt (ds:=[jD V.length,jD M.length]) rfl af a0B (e_ Y (ax (wT hp) rfl) rfl (o_ (l:=a.q) rfl rfl rfl (Wp.note (e_ (d:= .sl (hZ [(a,⟨5,(x.i:Nat),(k:Nat)⟩)])) rfl rfl rfl (e_ Y (GU a0B _ (Nat.le_add_left 1 2)) rfl (e_ Y (bg (b:=1) a0B) rfl (b_ Y ih))))))))
def dN(x:Cx)(u:Ur):a0i:=if u.D then[⟨2,(x.i:Nat),0⟩] else[]
def dE(x:Cx)(o:Nd)(u:Ur):a0h:=if u.D then[(⟨2,(x.i:Nat),0⟩,o),(o,⟨2,(x.i:Nat),0⟩)] else[]
theorem g7{h:Nat}(hh:h=7/\u.D=true\/h=8/\u.D=false)(hN:ns.length<=1000000){M:a0i}(hM:M.length<=900000):∀(aa V:a0i),M=V++aa->∀{es:a0h},es.length+M.length<=900000+V.length->
 Rn F X 150 (h+2) (KB x (ns++dN x u) (es++((aa.filter fun m=>m.k=1).map (fun m=>((⟨5,(x.i:Nat),(k:Nat)⟩:Nd),m))++dE x ⟨5,(x.i:Nat),(k:Nat)⟩ u)) n hs k 0 u) Q->
 Rn F X 150 h (KA x ns es n hs k M V.length u) Q
 |[],V,hp,es,hb,K=>by
  have hl:=iH hp;unfold dN dE at K;rw[List.filter_nil,List.map_nil,n_] at K;rcases hh with⟨rfl,hd⟩|⟨rfl,hd⟩
  ·unfold KB at K;rw[hd,i_ Y,i_ Y,<-yV] at K;have:=vl (ns:=ns);refine Rn.of (fd:=mM) rfl rfl rfl rfl (Wp.c8 (ds:=[jD V.length,jD M.length]) rfl af a0B (Wp.note (Wp.ig Y (tG a0B ⟨2,(x.i:Nat),0⟩) rfl (Wp.note ?_))));exact e_ (d:= .sl (hZ [(⟨2,(x.i:Nat),0⟩,⟨5,(x.i:Nat),(k:Nat)⟩),(⟨5,(x.i:Nat),(k:Nat)⟩,⟨2,(x.i:Nat),0⟩)])) rfl rfl rfl<|wo Y (GU a0B _ (Nat.le_add_left 2 1))<|wo Y (au (nC _))<|wj K
  ·rw[hd,j_ Bool.noConfusion,j_ Bool.noConfusion,xj,xj] at K;exact Rn.of (fd:=mM) rfl rfl rfl rfl (Wp.c8 (ds:=[jD V.length,jD M.length]) rfl af a0B (e_ Y (au (nC _)) rfl (b_ Y K)))
 |a::aa,V,hp,es,hb,K=>by
  have hl:=gP hp;have ih:=fun{es'} he K'=>g7 hh hN hM aa (V++[a]) (gi hp) (es:=es') he K'
  rw[xa] at ih;have hd:h=7\/h=8:=a0B
  by_cases ha:a.k=1
  ·have ih:=ih (es':=es++[(⟨5,(x.i:Nat),(k:Nat)⟩,a)]) (by rw[xa];show _+1+_<=_+(_+1);omega) (by rw[List.filter_cons_of_pos (by simpa using ha)] at K;rw[a_];exact K);clear hh;rcases hd with rfl|rfl<;>exact Rn.of (fd:=mM) rfl rfl rfl rfl (Wp.dt (ds:=[jD V.length,jD M.length]) rfl af a0B (e_ Y (ax (wT hp) rfl) rfl (o_ (l:=a.q) rfl rfl rfl (Wp.dt (ds:=[.int .i64 a.k,.int .i64 1]) rfl ay ha (Wp.note (e_ (d:= .sl (hZ [(⟨5,(x.i:Nat),(k:Nat)⟩,a)])) rfl rfl rfl (e_ Y (GU a0B _ (Nat.le_add_left 1 2)) rfl (e_ Y (bg (b:=1) a0B) rfl (b_ Y ih)))))))))
  ·have ih:=ih (es':=es) (by show _+_<=_+(_+1);omega) (by rw[List.filter_cons_of_neg (by simpa using ha)] at K;exact K);clear hh;rcases hd with rfl|rfl<;>exact Rn.of (fd:=mM) rfl rfl rfl rfl (Wp.dt (ds:=[jD V.length,jD M.length]) rfl af a0B (e_ Y (ax (wT hp) rfl) rfl (o_ (l:=a.q) rfl rfl rfl (Wp.c8 (ds:=[.int .i64 a.k,.int .i64 1]) rfl ay ha (e_ Y (bg (b:=1) a0B) rfl (b_ Y ih))))))
def X1(ar:a0f)(x:Cx)(s:St):Prop:=∃d c j,x.f.comps[d]? =some c/\cq (x.f.comps.map (·.name)) s.nm=some d/\cq (gK ar d) s.hn=some j
def Zl(ar:a0f)(x:Cx)(s:St):Prop:=∃j,cq (gK ar x.i) s.hn=some j
def sN(x:Cx)(s:St):Nd:=⟨6,(x.i:Nat),(cN x s.nm:Nat)⟩
def sE(ar:a0f)(x:Cx)(o:Nd)(s:St):a0h:=sL o (sN x s) (hN ar (cN x s.nm) s.hn)
def tE(ar:a0f)(x:Cx)(o:Nd)(s:St):a0h:=sL o ⟨3,(x.i:Nat),0⟩ (hN ar x.i s.hn)
theorem g9(hx:eu ar x){h:Nat}(hh:h=9\/h=10)(hu:u.S.length<=900000):∀(aa V:a0q),u.S=V++aa->(∀s∈aa,X1 ar x s)->∀{ns:a0i} {es:a0h},ns.length+es.length+4*aa.length<=900000->
 Rn F X 150 11 (QF x (ns++aa.map (sN x)) (es++aa.flatMap (sE ar x ⟨5,(x.i:Nat),(k:Nat)⟩)) n hs k 0 u) Q->
 Rn F X 150 h (KB x ns es n hs k V.length u) Q
 |[],V,hp,_,ns,es,hb,K=>by
  have hl:=iH hp;rw[List.map_nil,List.flatMap_nil,xj,xj] at K;rcases hh with rfl|rfl<;>exact Rn.of (fd:=mM) rfl rfl rfl rfl (Wp.c8 (ds:=[jD V.length,jD u.S.length]) rfl af a0B (e_ Y (au (nC _)) rfl (b_ Y K)))
 |a::aa,V,hp,jZ,ns,es,hb,K=>by
  have hl:=gP hp;rw[xi] at hb;obtain⟨d,c,j,h1,h2,h3⟩:=jZ a xn;have ao:(St.rs u.S)[V.length]? =some a.r:=by rw[hp];exact I7 _ _ _
  have gR:(x.f.comps.map Cm.r)[d]? =some c.r:=by rw[xx,h1];rfl
  have e1:cN x a.nm=d:=by unfold cN;rw[h2];rfl
  have e2:sN x a=⟨6,(x.i:Nat),(d:Nat)⟩:=by unfold sN;rw[e1]
  have e3:sE ar x ⟨5,(x.i:Nat),(k:Nat)⟩ a=[(⟨5,(x.i:Nat),(k:Nat)⟩,⟨6,(x.i:Nat),(d:Nat)⟩),(⟨5,(x.i:Nat),(k:Nat)⟩,⟨5,(d:Nat),(j:Nat)⟩),(⟨6,(x.i:Nat),(d:Nat)⟩,⟨5,(d:Nat),(j:Nat)⟩)]:=by
   unfold sE;rw[e2,e1];unfold hN;rw[h3];rfl
  have hn:=hx.f.n;have hr:=RI (X:=X) (x:=eo x (c,d)) ⟨hx.f,hx.p,hx.id,h1⟩ h3;have bE:=al7 (X:=X) (f:=x.f) a0B h2;have al:=vl (ns:=ns);have ih:=g9 hx hh hu aa (V++[a]) (gi hp) (fun s hm=>jZ s (xo _ hm)) (ns:=ns++[⟨6,(x.i:Nat),(d:Nat)⟩]) (es:=es++[(⟨5,(x.i:Nat),(k:Nat)⟩,⟨6,(x.i:Nat),(d:Nat)⟩),(⟨5,(x.i:Nat),(k:Nat)⟩,⟨5,(d:Nat),(j:Nat)⟩),(⟨6,(x.i:Nat),(d:Nat)⟩,⟨5,(d:Nat),(j:Nat)⟩)]) (by rw[xa,xa];show _+1+(_+3)+_<=_;omega) (by rw[<-e3,<-e2,a_,a_];exact K);unfold KB at ih;rw[xa,<-yV] at ih;obtain⟨ak,an,ah,ae,QD,QE⟩:=a;obtain⟨cn,cv,cvs⟩:=c;rcases hh with rfl|rfl<;>(
   refine Rn.of (fd:=mM) rfl rfl rfl rfl (Wp.dt (ds:=[jD V.length,jD u.S.length]) rfl af a0B (e_ Y (ax ao Y) rfl (o_ (l:=[Fl.iD ak,.str an,.str ah,.sl (Ex.rs ae),.sl (St.rs QD),.sl (St.rs QE)]) rfl rfl rfl (Wp.note ?_))));dsimp only [c_,n_];refine wL Y bE rfl<|wo Y (ax gR rfl)<|o_ (l:=[.str cn,.sl (cv.map Vr.r),.sl (pd cvs)]) rfl rfl rfl<|wg 1 Y ?_;dsimp only [c_,n_];refine wL Y hr rfl<|wl Y (tG a0B ⟨6,(x.i:Nat),(d:Nat)⟩) rfl<|wg 1 Y ?_;dsimp only [c_,n_];exact e_ (d:= .sl (hZ [(⟨5,(x.i:Nat),(k:Nat)⟩,⟨6,(x.i:Nat),(d:Nat)⟩),(⟨5,(x.i:Nat),(k:Nat)⟩,⟨5,(d:Nat),(j:Nat)⟩),(⟨6,(x.i:Nat),(d:Nat)⟩,⟨5,(d:Nat),(j:Nat)⟩)])) rfl rfl rfl (e_ Y (GU a0B _ (xk 3)) rfl (e_ Y (bg (b:=1) a0B) rfl (b_ Y ih))))
theorem g11(hx:eu ar x)(hu:u.T.length<=900000):∀(aa V:a0q),u.T=V++aa->(∀s∈aa,Zl ar x s)->k<=1000->∀{ns:a0i} {es:a0h},ns.length+es.length+4*aa.length<=900000->
 Rn F X 150 4 (KC x (ns++aa.map fun _=>(⟨3,(x.i:Nat),0⟩:Nd)) (es++aa.flatMap (tE ar x ⟨5,(x.i:Nat),(k:Nat)⟩)) n hs (k+1)) Q->
 Rn F X 150 11 (QF x ns es n hs k V.length u) Q
 |[],V,hp,_,hk,ns,es,hb,K=>by
  have hl:=iH hp;rw[List.map_nil,List.flatMap_nil,xj,xj] at K;exact wr Y<|Wp.c8 (ds:=[jD V.length,jD u.T.length]) rfl af a0B<|wo Y oA<|wj K
 |a::aa,V,hp,jZ,hk,ns,es,hb,K=>by
  have hl:=gP hp;rw[xi] at hb;obtain⟨j,h3⟩:=jZ a xn;have ao:(St.rs u.T)[V.length]? =some a.r:=by rw[hp];exact I7 _ _ _
  have e3:tE ar x ⟨5,(x.i:Nat),(k:Nat)⟩ a=[(⟨5,(x.i:Nat),(k:Nat)⟩,⟨3,(x.i:Nat),0⟩),(⟨5,(x.i:Nat),(k:Nat)⟩,⟨5,(x.i:Nat),(j:Nat)⟩),(⟨3,(x.i:Nat),0⟩,⟨5,(x.i:Nat),(j:Nat)⟩)]:=by
   unfold tE hN;rw[h3];rfl
  have hr:=RI (X:=X) hx h3;have al:=vl (ns:=ns);have ih:=g11 hx hu aa (V++[a]) (gi hp) (fun s hm=>jZ s (xo _ hm)) hk (ns:=ns++[⟨3,(x.i:Nat),0⟩]) (es:=es++[(⟨5,(x.i:Nat),(k:Nat)⟩,⟨3,(x.i:Nat),0⟩),(⟨5,(x.i:Nat),(k:Nat)⟩,⟨5,(x.i:Nat),(j:Nat)⟩),(⟨3,(x.i:Nat),0⟩,⟨5,(x.i:Nat),(j:Nat)⟩)]) (by rw[xa,xa];show _+1+(_+3)+_<=_;omega) (by rw[<-e3,a_,a_];exact K);unfold QF at ih;rw[xa,<-yV] at ih;obtain⟨ak,an,ah,ae,QD,QE⟩:=a;exact wr Y<|Wp.dt (ds:=[jD V.length,jD u.T.length]) rfl af a0B<|wo Y (ax ao Y)<|o_ (l:=[Fl.iD ak,.str an,.str ah,.sl (Ex.rs ae),.sl (St.rs QD),.sl (St.rs QE)]) rfl rfl rfl<|wl Y hr rfl<|wl Y (tG a0B ⟨3,(x.i:Nat),0⟩) rfl<|wg 1 Y<|e_ (d:= .sl (hZ [(⟨5,(x.i:Nat),(k:Nat)⟩,⟨3,(x.i:Nat),0⟩),(⟨5,(x.i:Nat),(k:Nat)⟩,⟨5,(x.i:Nat),(j:Nat)⟩),(⟨3,(x.i:Nat),0⟩,⟨5,(x.i:Nat),(j:Nat)⟩)])) rfl rfl rfl<|wo Y (GU a0B _ (xk 3))<|wo Y oA<|wj ih
end
end Go.Proofs.YthicpeihkkokmaaGreatDoor
namespace Go.Fl
mutual
theorem Ex.bh2:∀(e:Ex) (a:Us),a∈Ex.us e->∃s,a= .rd s
 | .mk op name n args,a,h=>by
  rw[Ex.us,xF] at h;rcases h with h|h
  ·split at h
   ·cases h
   ·exact⟨name,xy.1 h⟩
  ·exact Ex.O2 args a h
theorem Ex.O2:∀(l:List Ex) (a:Us),a∈Ex.cg l->∃s,a= .rd s
 |[],a,h=>nomatch h
 |e::l,a,h=>by
  rw[Ex.cg,xF] at h;exact h.elim (Ex.bh2 e a) (Ex.O2 l a)
end
def Us.ok(R:St->Prop):Us->Prop
 | .sn (.mk k n h es th el)=>R (.mk k n h es th el)/\k=6
 | .tm (.mk k n h es th el)=>R (.mk k n h es th el)/\k=7
 | .wr t=>∃k h es th el,R (.mk k t h es th el)/\(k=1\/k=2\/k=3\/k=9)
 |_=>True
theorem aL9{R:St->Prop}{k:Nat}{n h:aq}{es:List Ex}{th el:a0q}(hr:R (.mk k n h es th el)){a:Us}(ha:a∈cZ (.mk k n h es th el) n k):a.ok R:=by
 unfold cZ at ha;split at ha<;>simp only [xG,List.not_mem_nil,or_false] at ha
 ·subst ha;exact⟨_,_,_,_,_,hr,a0B⟩
 ·rcases ha with rfl|rfl
  ·trivial
  ·exact⟨_,_,_,_,_,hr,a0B⟩
 ·rcases ha with rfl|rfl
  ·trivial
  ·exact⟨_,_,_,_,_,hr,a0B⟩
 ·subst ha;exact⟨hr,rfl⟩
 ·subst ha;exact⟨hr,rfl⟩
 ·subst ha;trivial
 ·rcases ha with rfl|rfl|rfl
  ·trivial
  ·exact⟨_,_,_,_,_,hr,a0B⟩
  ·trivial
theorem dL.bg9{R:St->Prop}{s:St}(h:dL R s):∀a∈St.us s,a.ok R:=by
 induction h with
 | @mk k n hd es th el h h1 h2 i1 i2=>
  have ls:∀l:a0q,(∀s∈l,∀a∈St.us s,a.ok R)->∀a∈St.cg l,a.ok R:=by
   intro l hl
   induction l with
   |nil=>exact fun a h=>nomatch h
   |cons s l ih=>
    intro a ha;rw[St.cg,xF] at ha;exact ha.elim (hl s xn a) (ih (fun s hs=>hl s (xo _ hs)) a)
  intro a ha;rw[St.us,xF,xF,xF] at ha;rcases ha with ha|ha|ha|ha
  ·exact aL9 h ha
  ·obtain⟨s,rfl⟩:=Ex.O2 _ _ ha;trivial
  ·exact ls th i1 a ha
  ·exact ls el i2 a ha
theorem ZP{R:St->Prop}{l:a0q}(h:∀s∈l,dL R s):∀a∈St.cg l,a.ok R:=by
 induction l with
 |nil=>exact fun a h=>nomatch h
 |cons s l ih=>
  intro a ha;rw[St.cg,xF] at ha;exact ha.elim ((h s xn).bg9 a) (ih (fun s hs=>h s (xo _ hs)) a)
end Go.Fl
namespace Go.Proofs.YthicpeihkkokmaaGreatDoor
open Go.Ex Go.RowKit Go.Sort Go.Fl
section
section
variable{X:a0a}{ar:a0f}{x:Cx}
def uH(x:Cx)(s:aq):Ur:=u0.gL (pw x.cm.aS s)
theorem Dw{x:Cx}{s:aq}{a:Us}:a∈pw x.cm.aS s↔∃v∈x.cm.aS,∃h∈v,h.name=s/\a∈St.cg h.body:=by
 unfold pw;rw[List.mem_flatMap];refine exists_congr fun v=>and_congr_right fun _=> ?_
 rw[List.mem_flatMap];refine exists_congr fun h=>and_congr_right fun _=> ?_
 split
 ·rename_i e;rw[Jk];exact⟨fun h=>⟨e,h⟩,fun h=>h.2⟩
 ·rename_i e;exact⟨fun h=>(nomatch h),fun h=>absurd h.1 e⟩
theorem aD2(hx:eu ar x)(s:aq):(pw x.cm.aS s).length<=14400:=by
 obtain⟨_,ints,tables,al,h1,h2,h3,h4,h5,h6,h7,h8,h9⟩:=hx.f.comps _ _ hx.c;have aR:=hx.f.ji al (xu h4);have:=so (f:=fun v:List Hn=>v.flatMap fun h=>if h.name=s then St.eX h.body else[]) (l:=x.cm.aS) (m:=7200) fun v hv=>by
  have QC:=(h9 v hv).2.1;have:=so (f:=fun h:Hn=>if h.name=s then St.eX h.body else[]) (l:=v) (m:=2400) fun h hh=>by
   have hf:=CR hx hv hh;have h3:=(tD fun s hs=>(hf.ss s hs).mono fun s h=>h.1).2;have h4:=hf.n;split
   ·omega
   ·exact xL _
  omega
 unfold pw;omega
theorem Fz(hx:eu ar x){s:aq}{a:Us}(ha:a∈pw x.cm.aS s):a.ok (Il ar x):=by
 obtain⟨v,hv,h,hh,_,hm⟩:=Dw.1 ha;exact ZP (fun s hs=>((CR hx hv hh).ss s hs).mono fun s h=>h.2) a hm
theorem Di(x:Cx)(s:aq):UrQ u0 (uH x s) (pw x.cm.aS s):=Ur.Pp _ _
theorem TU(hx:eu ar x)(s:aq):(uH x s).R.length+(uH x s).W.length+(uH x s).S.length+(uH x s).T.length<=14400:=by
 have h1:=(Di x s).n;have h2:=aD2 hx s;have h3:u0.R.length+u0.W.length+u0.S.length+u0.T.length=0:=rfl;omega
theorem Ab{i:Nat}{al:a0g}(h:ar[i]? =some al):gK ar i=aP 104 al.length:=by unfold gK;rw[h];rfl
theorem ab5(hx:eu ar x)(s:aq):∀t∈(uH x s).S,X1 ar x t:=fun t ht=>by
 have h:=Fz hx (((Di x s).S t).1 ht|>.elim (fun h=>nomatch h) id);obtain⟨k,n,hd,es,th,el⟩:=t;obtain⟨⟨_,h2,_⟩,rfl⟩:=h;obtain⟨i,al,j,aR,rfl,hj,rfl⟩:=h2 rfl;have hi:=iB aR;have hn:=hx.f.n;have h3:=hx.f.ji al (xu aR);exact⟨i,_,j,xc a0B,IQ hx.f hi,by rw[Ab aR];exact Pf h3.2.1 hj⟩
theorem as1(hx:eu ar x)(s:aq):∀t∈(uH x s).T,Zl ar x t:=fun t ht=>by
 have h:=Fz hx (((Di x s).T t).1 ht|>.elim (fun h=>nomatch h) id);obtain⟨k,n,hd,es,th,el⟩:=t;obtain⟨⟨_,_,h2⟩,rfl⟩:=h;obtain⟨al,j,aR,hj,rfl⟩:=h2 rfl;have h3:=hx.f.ji al (xu aR);exact⟨j,by rw[Ab aR];exact Pf h3.2.1 hj⟩
def gN(x:Cx)(p:aq×Nat):a0i:=[⟨5,(x.i:Nat),(p.2:Nat)⟩]++(dN x (uH x p.1)++((uH x p.1).S.map (sN x)++(uH x p.1).T.map fun _=>(⟨3,(x.i:Nat),0⟩:Nd)))
def gE(ar:a0f)(x:Cx)(p:aq×Nat):a0h:=((bw [] (kV x (uH x p.1).R)).map fun m=>(m,(⟨5,(x.i:Nat),(p.2:Nat)⟩:Nd)))++((((bw [] (kV x (uH x p.1).W)).filter fun m=>m.k=1).map fun m=>((⟨5,(x.i:Nat),(p.2:Nat)⟩:Nd),m))++(dE x ⟨5,(x.i:Nat),(p.2:Nat)⟩ (uH x p.1)++((uH x p.1).S.flatMap (sE ar x ⟨5,(x.i:Nat),(p.2:Nat)⟩)++(uH x p.1).T.flatMap (tE ar x ⟨5,(x.i:Nat),(p.2:Nat)⟩))))
theorem Ij(hx:eu ar x)(L:a0s):(bw [] (kV x L)).length<=L.length:=by
 have h1:=vl (ns:=kV x L);have h2:=so (f:=rN x) (l:=L) (m:=1) fun s _=>Uh hx s
 unfold kV at h1⊢;omega
theorem gh(hx:eu ar x){ns:a0i}{es:a0h}{n k:Nat}{hs:a0s}{s:aq}{Q:a0d->Prop}(hk:hs[k]? =some s)(hl:hs.length<=100)(hb:ns.length+es.length<=700000)
 (K:Rn F X 150 4 (KC x (ns++gN x (s,k)) (es++gE ar x (s,k)) n hs (k+1)) Q):Rn F X 150 4 (KC x ns es n hs k) Q:=by
 have eW:=iB hk;have hu:=TU hx s;have ao:(strs hs)[k]? =some [.str s]:=by unfold strs;rw[xx,hk];rfl
 have l1:=Ij hx (uH x s).R;have l2:=Ij hx (uH x s).W;have al:=vl (ns:=ns);have dn:(dN x (uH x s)).length<=1:=by unfold dN;split<;>exact xh rfl
 have de:(dE x ⟨5,(x.i:Nat),(k:Nat)⟩ (uH x s)).length<=2:=by unfold dE;split<;>exact xh rfl
 have sl:=so (f:=sE ar x ⟨5,(x.i:Nat),(k:Nat)⟩) (l:=(uH x s).S) (m:=3) fun _ _=>xk 3
 have fl:(((bw [] (kV x (uH x s).W)).filter fun m=>m.k=1).map fun m=>((⟨5,(x.i:Nat),(k:Nat)⟩:Nd),m)).length<=(bw [] (kV x (uH x s).W)).length:=by rw[xm];exact List.length_filter_le _ _
 have chain:∀{h:Nat} (h5:h=5\/h=6) (hd:h=5/\(uH x s).D=true\/h=6/\(uH x s).D=false),Rn F X 150 h (KA x (ns++[⟨5,(x.i:Nat),(k:Nat)⟩]) es n hs k (bw [] (kV x (uH x s).R)) 0 (uH x s)) Q:=fun{h} h5 hd=>by
  refine g5 hx h5 a0B (M:=bw [] (kV x (uH x s).R)) a0B (bw [] (kV x (uH x s).R)) [] rfl (by show _<=_+0;omega) ?_;refine g7 (h:=h+2) (hd.imp (fun h=>⟨by rw[h.1],h.2⟩) fun h=>⟨by rw[h.1],h.2⟩) (by rw[xa];show _+1<=_;omega) (M:=bw [] (kV x (uH x s).W)) a0B (bw [] (kV x (uH x s).W)) [] rfl (by rw[xa,xm];show _<=_+0;omega) ?_;refine g9 hx (h:=h+2+2) a0B a0B (uH x s).S [] rfl (ab5 hx s) (by simp only [xa,xm,List.length_singleton] at*;omega) ?_;refine g11 hx a0B (uH x s).T [] rfl (as1 hx s) a0B (by simp only [xa,xm,List.length_singleton] at*;omega) ?_;unfold gN gE at K;simp only [a_] at K⊢;exact K
 have co:=aM3 (X:=X) hx s;rw[show u0.gL (pw x.cm.aS s)=uH x s from Y] at co;refine wr Y<|wy Y af<|wo Y (ax ao Y)<|wg 1 Y<|wl Y (tG a0B ⟨5,(x.i:Nat),(k:Nat)⟩) rfl<|wg 1 Y ?_;rw[yV];dsimp only [c_,n_];cases hd:(uH x s).D with
 |true=>
  have c:=chain (h:=5) (.inl Y) (.inl ⟨rfl,hd⟩);refine Wp.ig Y co (by unfold Ur.d;rw[hd];rfl)<|wg 1 Y ?_;dsimp only [Ur.d,c_,n_];exact wL Y (KD hx a0B) rfl<|wo Y (au (rW _))<|wj c
 |false=>
  have c:=chain (h:=6) (.inr Y) (.inr ⟨rfl,hd⟩);refine Wp.AG Y co (by unfold Ur.d;rw[hd];rfl)<|Wp.ig Y co (by unfold Ur.d;rw[hd];rfl)<|wg 1 Y ?_;dsimp only [Ur.d,c_,n_];exact wL Y (KD hx a0B) rfl<|wo Y (au (rW _))<|wj c
end
end
section
variable{X:a0a}{ar:a0f}{x:Cx}
theorem WB(hx:eu ar x)(p:aq×Nat):(gN x p).length+(gE ar x p).length<=57610:=by
 have hu:=TU hx p.1;have l1:=Ij hx (uH x p.1).R;have l2:=Ij hx (uH x p.1).W;have dn:(dN x (uH x p.1)).length<=1:=by unfold dN;split<;>exact xh rfl
 have de:(dE x ⟨5,(x.i:Nat),(p.2:Nat)⟩ (uH x p.1)).length<=2:=by unfold dE;split<;>exact xh rfl
 have sl:=so (f:=sE ar x ⟨5,(x.i:Nat),(p.2:Nat)⟩) (l:=(uH x p.1).S) (m:=3) fun _ _=>xk 3
 have tl:=so (f:=tE ar x ⟨5,(x.i:Nat),(p.2:Nat)⟩) (l:=(uH x p.1).T) (m:=3) fun _ _=>xk 3
 have fl:=List.length_filter_le (fun m:Nd=>decide (m.k=1)) (bw [] (kV x (uH x p.1).W));unfold gN gE;simp only [xa,xm,List.length_singleton];omega
abbrev E8(x:Cx)(ns:a0i)(es:a0h)(j:Nat):a0d:=[.sl (ei (bw [] ns)),.sl (hZ es),.sl (x.f.comps.map Cm.r),jD x.f.comps.length,jD j,.str x.f.name,.sl (x.f.flags.map Fg.d),.sl (x.f.links.map Lk.d)]
theorem g4(hx:eu ar x)(hi:x.i<=100){hs:a0s}(hl:hs.length<=100){Q:a0d->Prop}:∀(aa V:a0s),hs=V++aa->∀{ns:a0i} {es:a0h},ns.length+es.length+57610*aa.length<=700000->
 Rn F X 150 2 (E8 x (ns++(aa.zipIdx V.length).flatMap (gN x)) (es++(aa.zipIdx V.length).flatMap (gE ar x)) (x.i+1)) Q->
 Rn F X 150 4 (KC x ns es x.f.comps.length hs V.length) Q
 |[],V,hp,ns,es,hb,K=>by
  have aL:=iH hp;rw[List.zipIdx_nil,List.flatMap_nil,List.flatMap_nil,xj,xj] at K;exact wr Y<|wn Y af<|wo Y oA<|wj K
 |a::aa,V,hp,ns,es,hb,K=>by
  have hk:hs[V.length]? =some a:=by rw[hp,xq (xk _),Nat.sub_self];rfl
  have gl:=WB hx (a,V.length);rw[xi] at hb;rw[List.zipIdx_cons,List.flatMap_cons,List.flatMap_cons,<-a_,<-a_] at K;have ih:=g4 hx hi hl aa (V++[a]) (gi hp) (ns:=ns++gN x (a,V.length)) (es:=es++gE ar x (a,V.length)) (by simp only [xa];omega) (by rw[xa];exact K);rw[xa] at ih;exact gh hx hk hl a0B ih
def ya(ar:a0f)(x:Cx):a0i:=(List.range x.cm.vars.length).map (fun v=>(⟨1,(x.i:Nat),(v:Nat)⟩:Nd))++(gK ar x.i).zipIdx.flatMap (gN x)
def rE(ar:a0f)(x:Cx):a0h:=(gK ar x.i).zipIdx.flatMap (gE ar x)
theorem g3(hx:eu ar x)(hi:x.i<=100){Q:a0d->Prop}:∀(m v:Nat),v+m=x.cm.vars.length->∀{ns:a0i} {es:a0h},ns.length+es.length+m<=527000->
 Rn F X 150 2 (E8 x (ns++((List.range' v m).map (fun v=>(⟨1,(x.i:Nat),(v:Nat)⟩:Nd))++(gK ar x.i).zipIdx.flatMap (gN x))) (es++rE ar x) (x.i+1)) Q->
 Rn F X 150 3 [.sl (ei (bw [] ns)),.sl (hZ es),jD x.i,.sl (x.f.comps.map Cm.r),jD x.f.comps.length,jD x.cm.vars.length,jD v,.str x.f.name,.sl (x.f.flags.map Fg.d),.sl (x.f.links.map Lk.d),.str x.cm.name,.sl (x.cm.vars.map Vr.r),.sl (pd x.cm.aS)] Q
 |0,v,hv,ns,es,hb,K=>by
  obtain⟨_,ints,tables,al,_,_,_,h4,_⟩:=hx.f.comps _ _ hx.c;have h3:=hx.f.ji al (xu h4);have hl:(gK ar x.i).length<=3:=by rw[Ab h4,Fx];omega
  have st:=g4 hx hi (hs:=gK ar x.i) a0B (gK ar x.i) [] rfl (ns:=ns) (es:=es) a0B K;exact wr Y<|wn Y af<|wl Y (Uc hx) rfl<|wo Y (au (kT _))<|wj st
 |m+1,v,hv,ns,es,hb,K=>by
  have al:=vl (ns:=ns);have ve:=Ci hx;have ih:=g3 hx hi m (v+1) a0B (ns:=ns++[⟨1,(x.i:Nat),(v:Nat)⟩]) (es:=es) (by rw[xa];show _+1+_+_<=_;omega) (by rw[a_];exact K);rw[<-yV] at ih;exact wr Y<|wy Y af<|wl Y (tG a0B ⟨1,(x.i:Nat),(v:Nat)⟩) rfl<|wo Y oA<|wj ih
theorem VX(hx:eu ar x):(ya ar x).length+(rE ar x).length<=172840:=by
 obtain⟨_,ints,tables,al,_,_,_,h4,_⟩:=hx.f.comps _ _ hx.c;have h3:=hx.f.ji al (xu h4);have hl:(gK ar x.i).length<=3:=by rw[Ab h4,Fx];omega
 have ve:=Ci hx;have:∀(ps:List (aq×Nat)),(ps.flatMap (gN x)).length+(ps.flatMap (gE ar x)).length<=57610*ps.length:=by
  intro ps
  induction ps with
  |nil=>exact xL _
  |cons p ps ih=>
   have:=WB hx p;rw[List.flatMap_cons,List.flatMap_cons,xa,xa,xi];omega
 have:=this (gK ar x.i).zipIdx;rw[List.length_zipIdx] at this;unfold ya rE;rw[xa,xm,List.length_range];omega
theorem g2(hx:tu ar x):∀(aa V:List Cm),x.f.comps=V++aa->∀{ns:a0i} {es:a0h},ns.length+es.length+172840*aa.length<=519000->
 Rn F X 150 2 (E8 x ns es V.length) (·=[.sl (ei (bw [] (ns++(aa.zipIdx V.length).flatMap fun p=>ya ar (eo x p)))),.sl (hZ (es++(aa.zipIdx V.length).flatMap fun p=>rE ar (eo x p)))])
 |[],V,hp,ns,es,hb=>by
  have aL:=iH hp;rw[List.zipIdx_nil,List.flatMap_nil,List.flatMap_nil,xj,xj];exact wr Y<|wn Y af<|wt Y Y
 |a::aa,V,hp,ns,es,hb=>by
  have aL:=gP hp;have hn:=hx.f.n;have ao:(x.f.comps.map Cm.r)[V.length]? =some a.r:=mu hp;have hc:x.f.comps[V.length]? =some a:=by rw[hp,xq (xk _),Nat.sub_self];rfl
  have Pq:eu ar (eo x (a,V.length)):=⟨hx.f,hx.p,hx.id,hc⟩;have rl:=VX Pq;have ve:a.vars.length<=5:=Ci Pq;rw[xi] at hb;have ih:=g2 hx aa (V++[a]) (gi hp) (ns:=ns++ya ar (eo x (a,V.length))) (es:=es++rE ar (eo x (a,V.length))) (by simp only [xa];omega);rw[xa,a_,a_] at ih;have st:=g3 Pq (by show V.length<=100;omega) a.vars.length 0 (Nat.zero_add _) (ns:=ns) (es:=es) a0B (by
   rw[<-List.range_eq_range'];exact ih)
  rw[List.zipIdx_cons,List.flatMap_cons,List.flatMap_cons];obtain⟨an,av,HF⟩:=a;exact wr Y<|wy Y af<|wo Y (ax ao Y)<|wg 1 Y<|wo Y (au (xm _))<|wj st
theorem g1(hx:tu ar x){Q:a0d->Prop}:∀(m v:Nat),v+m=x.f.flags.length->∀{ns:a0i},ns.length+m<=100->
 Rn F X 150 2 (E8 x (ns++(List.range' v m).map fun v=>(⟨4,(v:Nat),0⟩:Nd)) [] 0) Q->
 Rn F X 150 1 ([.sl (ei (bw [] ns)),jD x.f.flags.length,jD v]++x.f.r) Q
 |0,v,hv,ns,hb,K=>by
  have hf:=hx.f.flags.1;rw[show(List.range' v 0).map (fun v=>(⟨4,(v:Nat),0⟩:Nd))=[] from Y,xj] at K;exact wr Y<|wn Y af<|wo Y (au (xm _))<|wj K
 |m+1,v,hv,ns,hb,K=>by
  have hf:=hx.f.flags.1;have al:=vl (ns:=ns);have ih:=g1 hx m (v+1) a0B (ns:=ns++[⟨4,(v:Nat),0⟩]) (by rw[xa];show _+1+_<=_;omega) (by rw[a_];exact K);rw[<-yV] at ih;exact wr Y<|wy Y af<|wl Y (tG a0B ⟨4,(v:Nat),0⟩) rfl<|wo Y oA<|wj ih
def NS(ar:a0f)(x:Cx):a0i:=(List.range x.f.flags.length).map (fun v=>(⟨4,(v:Nat),0⟩:Nd))++x.f.comps.zipIdx.flatMap fun p=>ya ar (eo x p)
def ES(ar:a0f)(x:Cx):a0h:=x.f.comps.zipIdx.flatMap fun p=>rE ar (eo x p)
theorem ZD(hx:tu ar x):Rn F X 150 0 x.f.r (·=[.sl (ei (bw [] (NS ar x))),.sl (hZ (ES ar x))]):=by
 have hf:=hx.f.flags.1;have hn:=hx.f.n;have h2:=g2 (X:=X) hx x.f.comps [] rfl (ns:=(List.range x.f.flags.length).map fun v=>(⟨4,(v:Nat),0⟩:Nd)) (es:=[]) (by rw[xm,List.length_range];show _+0+_<=_;omega);rw[List.range_eq_range'] at h2;have h1:=g1 hx x.f.flags.length 0 (Nat.zero_add _) (ns:=[]) (by show 0+_<=_;omega) h2;rw[<-List.range_eq_range'] at h1;exact wr Y<|wo Y (au (xm _))<|wj h1
end
end Go.Proofs.YthicpeihkkokmaaGreatDoor
