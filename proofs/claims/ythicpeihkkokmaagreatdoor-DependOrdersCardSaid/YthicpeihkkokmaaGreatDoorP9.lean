/- What these functions answer. -/
import Derived.Test.YthicpeihkkokmaaGreatDoorP8
set_option linter.unusedVariables false
set_option linter.unusedSimpArgs false
set_option maxHeartbeats 4000000
set_option maxRecDepth 100000
namespace Go.Fl
theorem jQ.SI{w:Wd}{R:St->Prop}(H:∀B s,lO w B s->R s):∀{d:Nat} {l:JH},jQ w d l->∀s∈l,dL R s
 |0,l,h,s,hs=>by rw[show l=[] from h] at hs;cases hs
 |d+1,l,h,s,hs=>by
  have h1:=h s hs;have h3:=H _ _ h1;obtain⟨kind,name,cf,bf,th,el⟩:=s;obtain⟨n1,n2⟩:=h1.nest;refine .mk h3 (fun s hs=> ?_) (fun s hs=> ?_)
  ·rcases n1 with rfl|n1
   ·cases hs
   ·exact jQ.SI H n1 s hs
  ·rcases n2 with rfl|n2
   ·cases hs
   ·exact jQ.SI H n2 s hs
end Go.Fl
namespace Go.Proofs.YthicpeihkkokmaaGreatDoor
open Go.Ex Go.RowKit Go.Sort Go.Fl
theorem W7{s:aq}:∀{l:L5},s∈l->∃v,cq l s=some v
 |x::l,h=>by
  show∃v,(if x=s then some 0 else(cq l s).map (· +1))=some v;split
  ·exact⟨0,rfl⟩
  ·rename_i hx;obtain⟨v,hv⟩:=W7 ((xG.1 h).elim (fun e=>absurd e.symm hx) id);exact⟨v+1,by rw[hv];rfl⟩
section
variable{ar:Dw}{x:Cx}
theorem eu.ok(hx:eu ar x):Hp x:=by
 have hn:=hx.f.n;have hf:=hx.f.flags.1;obtain⟨_,ints,tables,al,h1,h2,h3,h4,h5,_⟩:=hx.f.comps _ _ hx.c;refine⟨hx.c,?_,MK,MK⟩;rw[h5];simp;omega
structure MI (ar:Dw) (x:Cx) (h:Hn):Prop where
 nm:∃k al,ar[x.i]? =some al/\k<al.length/\h.name=nm 104 k
 ss:∀s∈h.body,dL (fun s=>jy s/\Il ar x s) s
 n:St.ns h.body<=12
theorem CR(hx:eu ar x){v:List Hn}(hv:v∈x.cm.aS){h:Hn}(hh:h∈v):MI ar x h:=by
 obtain⟨_,ints,tables,al,h1,h2,h3,h4,h5,_,_,_,h9⟩:=hx.f.comps _ _ hx.c;obtain⟨_,h6,h7⟩:=h9 v hv;obtain⟨k,hk⟩:=qf hh;have ho:=h7 k h hk;obtain⟨n,hn,_,hb⟩:=ho.lW;have aR:=hx.f.ji al (xu h4);have hw:(⟨⟨ints,tables,x.f.flags.length,n⟩,ar,x.i⟩:Wd).Ok:=⟨⟨h2,h3,hx.f.flags.1,aR.2.2 n (xu hn)⟩,hx.f.n.2.2,fun l h=>(hx.f.ji l h).2⟩;have vars:∀s,(∃k<ints,s=nm 120 k)\/s=nm 98 0\/(0<tables/\s=nm 116 0)->∃v,cq x.vn s=some v:=fun s hs=>W7 (by
  unfold Cx.vn;rw[h5,List.map_append,List.map_cons,xF,xG,List.map_map,List.map_map];rcases hs with⟨k,hk,rfl⟩|rfl|⟨ht,rfl⟩
  ·exact .inl (xJ.2 ⟨k,List.mem_range.2 hk,rfl⟩)
  ·exact .inr (.inl Y)
  ·exact .inr (.inr (xJ.2 ⟨0,List.mem_range.2 ht,rfl⟩)))
 refine⟨⟨k,al,h4,(by have:=(xe.1 hk).1;omega),ho.name⟩,fun s hs=> ?_,ho.n⟩;refine(jQ.all hw hb ho.n s hs).and (hb.SI (R:=Il ar x) (fun B s hs=> ?_) s hs);cases hs with
 |mZ k hk he=>exact⟨fun _=>vars _ (.inl ⟨k,hk,rfl⟩),fun h=>MK,fun h=>MK⟩
 |AN he=>exact⟨fun _=>vars _ (.inr (.inl Y)),fun h=>MK,fun h=>MK⟩
 |put h _ _=>exact⟨fun _=>vars _ (.inr (.inr ⟨h,rfl⟩)),fun h=>MK,fun h=>MK⟩
 |del h _=>exact⟨fun _=>vars _ (.inr (.inr ⟨h,rfl⟩)),fun h=>MK,fun h=>MK⟩
 |Dg k hk _ _=>exact⟨fun _=>vars _ (.inl ⟨k,hk,rfl⟩),fun h=>MK,fun h=>MK⟩
 |send i h n hi hh _ _=>exact⟨fun h=>MK,fun _=>⟨i,_,h,hi,rfl,iB hh,rfl⟩,fun h=>MK⟩
 |Bi h n hi hh _ _=>exact⟨fun h=>MK,fun h=>MK,fun _=>⟨_,h,hi,iB hh,rfl⟩⟩
 |cond|Du|store|stop=>exact⟨fun h=>MK,fun h=>MK,fun h=>MK⟩
def hE(ar:Dw)(x:Cx)(h:Hn):Hj:=(St.cg h.body).flatMap (p7 ar x (hN ar x.i h.name))
def EQ(ar:Dw)(x:Cx):IU:=(List.range x.cm.vars.length).map (fun v=>(⟨1,(x.i:Nat),(v:Nat)⟩:Nd))++x.cm.aS.flatten.map fun h=>hN ar x.i h.name
def cE(ar:Dw)(x:Cx):Hj:=x.cm.aS.flatten.flatMap (hE ar x)
structure BI (b:Bd) (ns:IU) (es:Hj):Prop where
 l:b.l.Nodup
 E:b.E.Nodup
 ml:∀n,n∈b.l↔n∈ns\/∃e∈es,n=e.1\/n=e.2
 mE:∀e,e∈b.E↔e∈es
 nl:b.l.length<=ns.length+2*es.length
 nE:b.E.length<=es.length
theorem N2{n:Nd}{l:IU}:(iI n l).length<=l.length+1:=by
 unfold iI;split
 ·omega
 ·rw[xa];exact xk _
theorem aF8{e:Nd×Nd}{l:Hj}:(sv e l).length<=l.length+1:=by
 unfold sv;split
 ·omega
 ·rw[xa];exact xk _
theorem BI.node{b:Bd}{ns:IU}{es:Hj}(h:BI b ns es)(n:Nd)(c:Int)(o:Nd):BI {b with c:=c,h:=o,l:=iI n b.l} (ns++[n]) es:=by
 refine⟨OD h.l,h.E,fun m=> ?_,h.mE,?_,h.nE⟩
 ·show m∈iI n b.l↔_;rw[NZ,h.ml,xF,xy];grind
 ·have:=N2 (n:=n) (l:=b.l);have:=h.nl;show(iI n b.l).length<=_;rw[xa,List.length_singleton];omega
theorem BI.iU{b:Bd}{ns:IU}{es:Hj}(h:BI b ns es)(e:Nd×Nd):BI (b.iU e) ns (es++[e]):=by
 refine⟨OD (OD h.l),aP4 h.E,fun m=> ?_,fun a=> ?_,?_,?_⟩
 ·show m∈iI e.2 (iI e.1 b.l)↔_;rw[NZ,NZ,h.ml];simp only [xF,xy];grind
 ·show a∈sv e b.E↔_;rw[aF2,h.mE,xF,xy]
 ·have h1:=N2 (n:=e.1) (l:=b.l);have h2:=N2 (n:=e.2) (l:=iI e.1 b.l);have:=h.nl;show(iI e.2 (iI e.1 b.l)).length<=_;rw[xa,List.length_singleton];omega
 ·have:=aF8 (e:=e) (l:=b.E);have:=h.nE;show(sv e b.E).length<=_;rw[xa,List.length_singleton];omega
theorem BI.jR{ns:IU}:∀(uz:Hj) {b:Bd} {es:Hj},BI b ns es->BI (b.jR uz) ns (es++uz)
 |[],_,_,h=>by rw[xj];exact h
 |e::uz,_,es,h=>by
  have:=BI.jR uz (h.iU e);rw[a_] at this;exact this
def Bd.hand(ar:Dw)(x:Cx)(b:Bd)(h:Hn):Bd:=Bd.us ar x {b with c:=(x.i:Nat),h:=hN ar x.i h.name,l:=iI (hN ar x.i h.name) b.l} (St.cg h.body)
theorem BI.ZC:∀(hs:List Hn) {b:Bd} {ns:IU} {es:Hj},BI b ns es->BI (hs.foldl (Bd.hand ar x) b) (ns++hs.map fun h=>hN ar x.i h.name) (es++hs.flatMap (hE ar x))
 |[],_,_,_,h=>by rw[List.map_nil,List.flatMap_nil,xj,xj];exact h
 |a::hs,b,ns,es,h=>by
  have:=BI.ZC hs ((h.node (hN ar x.i a.name) (x.i:Nat) (hN ar x.i a.name)).jR (hE ar x a));rw[a_,a_] at this;exact this
def Bd.node(i:Nat)(b:Bd)(v:Nat):Bd:={b with l:=iI ⟨1,(i:Nat),(v:Nat)⟩ b.l}
theorem BI.vars{i:Nat}:∀(vs:Es) {b:Bd} {ns:IU} {es:Hj},BI b ns es->BI (vs.foldl (Bd.node i) b) (ns++vs.map fun v=>(⟨1,(i:Nat),(v:Nat)⟩:Nd)) es
 |[],_,_,_,h=>by rw[List.map_nil,xj];exact h
 |a::vs,b,ns,es,h=>by
  have:=BI.vars (i:=i) vs (h.node ⟨1,(i:Nat),(a:Nat)⟩ b.c b.h);rw[a_] at this;exact this
def Bd.cmp(ar:Dw)(x:Cx)(b:Bd):Bd:=x.cm.aS.foldl (fun b v=>v.foldl (Bd.hand ar x) b) ((List.range x.cm.vars.length).foldl (Bd.node x.i) b)
theorem BI.cmp{b:Bd}{ns:IU}{es:Hj}(h:BI b ns es):BI (b.cmp ar x) (ns++EQ ar x) (es++cE ar x):=by
 have:=BI.ZC (ar:=ar) (x:=x) x.cm.aS.flatten (h.vars (i:=x.i) (List.range x.cm.vars.length));rw[a_,List.foldl_flatten] at this;exact this
end
section
variable{X:Bv}{ar:Dw}{x:Cx}
def Bd.g(b:Bd)(x:Cx):Prop:=∃c h l E,b=⟨qO x.f x.src x.ids x.rows,0,c,h,l,E⟩
theorem Bd.x.g{b:Bd}(h:b.x x):b.g x:=by obtain⟨h,l,E,rfl⟩:=h;exact⟨_,_,_,_,rfl⟩
theorem qy(hx:eu ar x){C vr:Ca}{hs:List Hn}(hl:hs.length<=1000){n nv j:Nat}(hj:j<=1000){Q:Di->Prop}:∀(aa V:List Hn),hs=V++aa->(∀h∈aa,MI ar x h)->∀{b:Bd},b.g x->
 (∀{b':Bd},b'.g x->b'=aa.foldl (Bd.hand ar x) b->Rn F X 129 4 ([jD x.i,.sl C,jD n,.sl vr,jD nv,jD (j+1)]++b'.d) Q)->
 Rn F X 129 5 ([jD x.i,.sl C,jD n,.sl vr,jD nv,jD j,.sl (hs.map Hn.s),jD hs.length,jD V.length]++b.d) Q
 |[],V,hp,_,b,hb,K=>by
  have aL:hs.length=V.length:=by rw[hp,xj]
  exact wr Y<|Wp.c8 (ds:=[jD V.length,jD hs.length]) rfl af MK<|wo Y oA<|wj (K hb rfl)
 |a::aa,V,hp,hh,b,hb,K=>by
  have aL:hs.length=V.length+(aa.length+1):=by rw[hp,xa];rfl
  have ao:(hs.map Hn.s)[V.length]? =some a.s:=by rw[hp,List.map_append,xq (by rw[xm];exact xk _),xm,Nat.sub_self];rfl
  have ha:=hh a xn;obtain⟨q,al,aR,hq,iZ⟩:=ha.nm;have h3:=hx.f.ji al (xu aR);have hi:=(xe.1 aR).1;obtain⟨us,fs,eS,ow⟩:=P9 hx aR;have Ic:=Pb hx;have we:=hx.ok;have H7:hN ar x.i a.name=⟨5,(x.i:Nat),(q:Nat)⟩:=by rw[iZ];exact Df hx aR hq
  have zg:a.body.length<=12:=xH (mS _) ha.n;have bX:Bd.x {b with c:=(x.i:Nat),h:=hN ar x.i a.name,l:=iI (hN ar x.i a.name) b.l} x:=by obtain⟨c,h,l,E,rfl⟩:=hb;exact⟨_,_,_,rfl⟩
  have st:=az8 (X:=X) hx we zg ha.ss bX;have ih:=qy hx (C:=C) (vr:=vr) hl (n:=n) (nv:=nv) hj (Q:=Q) aa (V++[a]) (by rw[hp,a_];rfl) (fun h hm=>hh h (xo _ hm)) (b:=b.hand ar x a) (Dv bX _).g K;rw[xa] at ih;rw[H7] at st;have eh:b.hand ar x a=Bd.us ar x {b with c:=(x.i:Nat),h:=⟨5,(x.i:Nat),(q:Nat)⟩,l:=iI ⟨5,(x.i:Nat),(q:Nat)⟩ b.l} (St.cg a.body):=by unfold Bd.hand;rw[H7]
  rw[eh] at ih;obtain⟨c,h,l,E,rfl⟩:=hb;obtain⟨an,ap,ab⟩:=a;simp only at iZ;subst iZ;refine wr Y<|Wp.dt (ds:=[jD V.length,jD hs.length]) rfl af MK<|wo Y (ax ao Y)<|o_ (l:=[.str (nm 104 q),.sl (strs ap),.sl (St.ss ab)]) rfl rfl rfl ?_;dsimp only [c_,n_];refine wg 2 Y<|e_ (d:= .ptr (qO x.f x.src x.ids x.rows) 37) rfl rfl rfl<|e_ (d:= .ptr [.sl x.rows] 0) rfl Ic rfl<|wg 1 Y<|Wp.c8 (ds:=[jD x.i,jD 0]) rfl af MK<|wg 2 Y<|e_ (d:= .sl x.rows) rfl rfl rfl<|wo Y (au ow) ?_;dsimp only [c_,n_];refine Wp.c8 (ds:=[jD x.i,jD ar.length]) rfl eP MK<|wg 2 Y<|e_ (d:= .sl x.rows) rfl rfl rfl<|wo Y (ax eS rfl)<|wg 1 Y ?_;dsimp only [c_,n_];refine e_ (d:= .sl (strs (aP 104 al.length))) rfl rfl rfl<|Wp.qQ Y (Pk MK)<|e_ (d:= .sl []) rfl rfl rfl<|wo Y (NL h3.2.1)<|wg 1 Y ?_;dsimp only [c_,n_];refine wL Y (Cq h3.2.1 hq) rfl ?_;dsimp only [c_,n_];refine wo Y (uo ⟨5,(x.i:Nat),(q:Nat)⟩ l)<|wg 1 Y ?_;dsimp only [c_,n_];refine wL Y st rfl ?_;dsimp only [c_,n_];exact wo Y oA<|wj ih
theorem rp(hx:eu ar x){C:Ca}{n:Nat}(hn:x.i<=1000){vs:Mm}(bH:vs.length<=1000){Q:Di->Prop}:∀(aa V:Mm),vs=V++aa->(∀v∈aa,v.length<=1000/\∀h∈v,MI ar x h)->∀{b:Bd},b.g x->
 (∀{b':Bd},b'.g x->b'=aa.foldl (fun b v=>v.foldl (Bd.hand ar x) b) b->Rn F X 129 2 ([.sl C,jD n,jD (x.i+1)]++b'.d) Q)->
 Rn F X 129 4 ([jD x.i,.sl C,jD n,.sl (ca vs),jD vs.length,jD V.length]++b.d) Q
 |[],V,hp,_,b,hb,K=>by
  have aL:vs.length=V.length:=by rw[hp,xj]
  exact wr Y<|Wp.c8 (ds:=[jD V.length,jD vs.length]) rfl af MK<|wo Y oA<|wj (K hb rfl)
 |a::aa,V,hp,hh,b,hb,K=>by
  have aL:vs.length=V.length+(aa.length+1):=by rw[hp,xa];rfl
  have ao:(ca vs)[V.length]? =some [.sl (a.map Hn.s)]:=by unfold ca;rw[hp,List.map_append,xq (by rw[xm];exact xk _),xm,Nat.sub_self];rfl
  obtain⟨h1,h2⟩:=hh a xn;have st:=qy (X:=X) hx (C:=C) (vr:=ca vs) h1 (n:=n) (nv:=vs.length) (j:=V.length) MK (Q:=Q) a [] rfl h2 hb (fun{b'} kQ he=>by
   have:=rp hx (C:=C) (n:=n) hn bH aa (V++[a]) (by rw[hp,a_];rfl) (fun v hm=>hh v (xo _ hm)) kQ (fun bP h=>K bP (by rw[h,he];rfl));rw[xa] at this;exact this)
  exact wr Y<|Wp.dt (ds:=[jD V.length,jD vs.length]) rfl af MK<|wo Y (ax ao Y)<|o_ (l:=[.sl (a.map Hn.s)]) rfl rfl rfl<|wo Y (au (xm _))<|wj st
theorem rE{C vr:Ca}{nm:aq}{n nv:Nat}{vars:Ca}{Q:Di->Prop}{i k:Nat}(hk:k<=1000):∀(m v:Nat),v+m=k->∀{b:Bd},b.g x->
 (∀{b':Bd},b'.g x->b'=(List.range' v m).foldl (Bd.node i) b->Rn F X 129 4 ([jD i,.sl C,jD n,.sl vr,jD vr.length,jD 0]++b'.d) Q)->
 Rn F X 129 3 ([jD i,.sl C,jD n,jD k,jD v,.ptr b.fr b.fo,gm b.c,.int .u8 b.h.k,gm b.h.a,gm b.h.b,.str nm,.sl vars,.sl vr,.sl (b.l.map cL),.sl (b.E.map lH)]) Q
 |0,v,hv,b,hb,K=>by
  exact wr Y<|Wp.c8 (ds:=[jD v,jD k]) rfl af MK<|wo Y bc<|wj (K hb rfl)
 |m+1,v,hv,b,hb,K=>by
  have ih:=rE (C:=C) (vr:=vr) (nm:=nm) (n:=n) (nv:=nv) (vars:=vars) (Q:=Q) (i:=i) hk m (v+1) MK (b:=Bd.node i b v) (by obtain⟨c,h,l,E,rfl⟩:=hb;exact⟨_,_,_,_,rfl⟩) K;exact wr Y<|Wp.dt (ds:=[jD v,jD k]) rfl af MK<|wo Y (uo ⟨1,(i:Nat),(v:Nat)⟩ b.l)<|wo Y oA<|wj ih
def eo(x:Cx)(p:Cm×Nat):Cx:={x with i:=p.2,cm:=p.1}
theorem rW(hf:gU ar x.f)(hp':Ds ar x.rows)(dP:x.ids.length=32){Q:Di->Prop}(hQ:∀o,Q o->∃a b c,o=[.sl a,.sl b,.sl c]):∀(aa V:List Cm),x.f.comps=V++aa->∀{b:Bd},b.g x->
 (∀{b':Bd},b'.g x->b'=(aa.zipIdx V.length).foldl (fun b p=>b.cmp ar (eo x p)) b->Rn F X 165 0 b'.d Q)->
 Rn F X 129 2 ([.sl (x.f.comps.map Cm.s),jD x.f.comps.length,jD V.length]++b.d) Q
 |[],V,hp,b,hb,K=>by
  have aL:x.f.comps.length=V.length:=by rw[hp,xj]
  refine wr Y<|Wp.c8 (ds:=[jD V.length,jD x.f.comps.length]) rfl af MK<|wg 1 Y<|wx Y (K hb rfl) fun o ho=> ?_
  obtain⟨d1,d2,d3,rfl⟩:=hQ o ho;exact⟨rfl,wt Y ho⟩
 |a::aa,V,hp,b,hb,K=>by
  have aL:x.f.comps.length=V.length+(aa.length+1):=by rw[hp,xa];rfl
  have ao:(x.f.comps.map Cm.s)[V.length]? =some a.s:=by rw[hp,List.map_append,xq (by rw[xm];exact xk _),xm,Nat.sub_self];rfl
  have hc:x.f.comps[V.length]? =some a:=by rw[hp,xq (xk _),Nat.sub_self];rfl
  have hx:eu ar (eo x (a,V.length)):=⟨hf,hp',dP,hc⟩;have we:=hx.ok;have hn:=hf.n;obtain⟨_,ints,tables,al,h1,h2,h3,h4,h5,h6,h7,h8,h9⟩:=hf.comps _ _ hc;have aR:=hf.ji al (xu h4);have st:=rE (X:=X) (x:=x) (C:=x.f.comps.map Cm.s) (vr:=ca a.aS) (nm:=a.name) (n:=x.f.comps.length) (nv:=a.aS.length) (vars:=a.vars.map Vr.s) (Q:=Q) (i:=V.length) we.nv a.vars.length 0 (Nat.zero_add _) hb (fun{b'} kQ he=>by
   have:=rp (X:=X) hx (C:=x.f.comps.map Cm.s) (n:=x.f.comps.length) (by show V.length<=1000;omega) (vs:=a.aS) MK (Q:=Q) a.aS [] rfl (fun v hv=>⟨by have:=(h9 v hv).2.1;omega,fun h hh=>CR hx hv hh⟩) kQ (fun{b2} bP h=>by
    have:=rW hf hp' dP hQ aa (V++[a]) (by rw[hp,a_];rfl) bP (fun p6 e3=>K p6 (by
     rw[xa] at e3;rw[e3,h,he,List.zipIdx_cons,List.foldl_cons];unfold Bd.cmp;rw[List.range_eq_range'];rfl))
    rw[xa] at this;exact this)
   have e:(ca a.aS).length=a.aS.length:=xm _;rw[e];exact this)
  obtain⟨an,av,avs⟩:=a;exact wr Y<|Wp.dt (ds:=[jD V.length,jD x.f.comps.length]) rfl af MK<|wo Y (ax ao Y)<|o_ (l:=[.str an,.sl (av.map Vr.s),.sl (ca avs)]) rfl rfl rfl<|wo Y (au (xm _))<|wj st
theorem of1{C:Ca}{n:Nat}{d:D}{Q:Di->Prop}(hd:d=ny x.f x.src x.ids x.rows)(hk:n<=1000)(hC:Rn F X 95 0 x.f.s (·=x.f.s)):∀(m v:Nat),v+m=n->∀{l:IU},
 Rn F X 129 2 ([.sl (x.f.comps.map Cm.s),jD x.f.comps.length,jD 0]++(⟨qO x.f x.src x.ids x.rows,0,0,⟨0,0,0⟩,((List.range' v m).map fun v=>(⟨4,(v:Nat),0⟩:Nd)).foldl (fun l n=>iI n l) l,[]⟩:Bd).d) Q->
 Rn F X 129 1 [d,jD n,jD v,.sl (l.map cL),.sl []] Q
 |0,v,hv,l,K=>by
  subst hd;refine wr Y<|Wp.c8 (ds:=[jD v,jD n]) rfl af MK<|wg 3 Y<|o_ (l:=x.f.s) rfl rfl rfl<|wg 1 Y ?_;dsimp only [dj.s,c_,n_];refine wL Y hC rfl ?_;dsimp only [dj.s,c_,n_];exact wo Y (au (xm _))<|wj K
 |m+1,v,hv,l,K=>by
  subst hd;have ih:=of1 (C:=C) (Q:=Q) rfl hk hC m (v+1) MK (l:=iI ⟨4,(v:Nat),0⟩ l) K;exact wr Y<|Wp.dt (ds:=[jD v,jD n]) rfl af MK<|wo Y (uo ⟨4,(v:Nat),0⟩ l)<|wo Y oA<|wj ih
end
def fN(ar:Dw)(x:Cx):IU:=(List.range x.f.flags.length).map (fun v=>(⟨4,(v:Nat),0⟩:Nd))++x.f.comps.zipIdx.flatMap fun p=>EQ ar (eo x p)
def fE(ar:Dw)(x:Cx):Hj:=x.f.comps.zipIdx.flatMap fun p=>cE ar (eo x p)
section
variable{X:Bv}{ar:Dw}{x:Cx}
theorem BI.al2:∀(cs:List (Cm×Nat)) {b:Bd} {ns:IU} {es:Hj},BI b ns es->BI (cs.foldl (fun b p=>b.cmp ar (eo x p)) b) (ns++cs.flatMap fun p=>EQ ar (eo x p)) (es++cs.flatMap fun p=>cE ar (eo x p))
 |[],_,_,_,h=>by rw[List.flatMap_nil,List.flatMap_nil,xj,xj];exact h
 |a::cs,b,ns,es,h=>by
  have:=BI.al2 cs (h.cmp (ar:=ar) (x:=eo x a));rw[a_,a_] at this;exact this
theorem BI.flags:∀(ms:IU) {b:Bd} {ns:IU} {es:Hj},BI b ns es->BI {b with l:=ms.foldl (fun l n=>iI n l) b.l} (ns++ms) es
 |[],_,_,_,h=>by rw[xj];exact h
 |a::ms,b,ns,es,h=>by
  have:=BI.flags ms (h.node a b.c b.h);rw[a_] at this;exact this
end
section
variable{X:Bv}{ar:Dw}{x:Cx}
theorem so{α β:Type}{f:α->List β}{m:Nat}:∀{l:List α},(∀a∈l,(f a).length<=m)->(l.flatMap f).length<=l.length*m
 |[],_=>xL _
 |a::l,h=>by
  have h1:=h a xn;have h2:=so (l:=l) fun b hb=>h b (xo _ hb)
  rw[List.flatMap_cons,xa,xi,Nat.add_mul,Nat.one_mul];omega
theorem aT9(o:Nd)(a:Us):(p7 ar x o a).length<=3:=by
 cases a with
 |rd s=>
  show((rN x s).map (·,o)).length<=3;rw[xm];unfold rN;split
  ·exact Nat.le_add_left ..
  ·split<;>exact Nat.le_add_left ..
 |_=>exact xh rfl
theorem ba4{h:Hn}(hh:MI ar x h):(hE ar x h).length<=7200:=by
 have h1:=so (f:=p7 ar x (hN ar x.i h.name)) (l:=St.cg h.body) (m:=3) fun a _=>aT9 _ a
 have h2:=(tD fun s hs=>(hh.ss s hs).mono fun s h=>h.1).1;have h3:=hh.n;unfold hE;omega
theorem Xz(hx:eu ar x):x.cm.aS.flatten.length<=6:=by
 obtain⟨_,ints,tables,al,h1,h2,h3,h4,h5,h6,h7,h8,h9⟩:=hx.f.comps _ _ hx.c;have aR:=hx.f.ji al (xu h4);have h:=so (f:=fun v:List Hn=>v) (l:=x.cm.aS) (m:=3) fun v hv=>by have:=(h9 v hv).2.1;omega
 rw[List.flatMap_id'] at h;omega
theorem Ci(hx:eu ar x):x.cm.vars.length<=5:=by
 obtain⟨_,ints,tables,al,h1,h2,h3,h4,h5,h6,h7,h8,h9⟩:=hx.f.comps _ _ hx.c;rw[h5];simp;omega
theorem bf5(hx:eu ar x):(cE ar x).length<=43200:=by
 have h1:=so (f:=hE ar x) (l:=x.cm.aS.flatten) (m:=7200) fun h hh=>by
  obtain⟨v,hv,hh⟩:=List.mem_flatten.1 hh;exact ba4 (CR hx hv hh)
 have h2:=Xz hx;unfold cE;omega
theorem bf4(hx:eu ar x):(EQ ar x).length<=11:=by
 have h1:=Xz hx;have h2:=Ci hx;unfold EQ;rw[xa,xm,xm,List.length_range];omega
structure tu (ar:Dw) (x:Cx):Prop where
 f:gU ar x.f
 p:Ds ar x.rows
 id:x.ids.length=32
theorem tu.at(hx:tu ar x){p:Cm×Nat}(hp:p∈x.f.comps.zipIdx):eu ar (eo x p):=⟨hx.f,hx.p,hx.id,List.mem_zipIdx_iff_getElem?.1 hp⟩
theorem bp9(hx:tu ar x):(fN ar x).length<=35/\(fE ar x).length<=129600:=by
 have hn:=hx.f.n;have BH:=hx.f.flags.1;have hl:x.f.comps.zipIdx.length<=3:=by rw[List.length_zipIdx];omega
 have h1:=so (f:=fun p=>EQ ar (eo x p)) (l:=x.f.comps.zipIdx) (m:=11) fun p hp=>bf4 (hx.at hp)
 have h2:=so (f:=fun p=>cE ar (eo x p)) (l:=x.f.comps.zipIdx) (m:=43200) fun p hp=>bf5 (hx.at hp)
 unfold fN fE;rw[xa,xm,List.length_range];omega
def OfB(ar:Dw)(x:Cx)(o:Di):Prop:=∃l E,o=[.sl (Nd.rs (gW l)),.sl (nx E),.sl (nx (E.map kr))]/\l.Nodup/\E.Nodup/\l.length<=1000000/\E.length<=1000000/\
 (∀n,n∈l↔n∈fN ar x\/∃e∈fE ar x,n=e.1\/n=e.2)/\∀e,e∈E↔e∈fE ar x
theorem bd8(hx:tu ar x):Rn F X 129 0 [ny x.f x.src x.ids x.rows] (OfB ar x):=by
 have hn:=hx.f.n;have BH:=hx.f.flags.1;have aE:=bp9 hx;refine wr Y<|wg 8 Y<|wo Y (au (xm _))<|b_ Y ?_;refine of1 (C:=[]) (n:=x.f.flags.length) rfl MK (XP hx.f.ok) x.f.flags.length 0 (Nat.zero_add _) (l:=[]) ?_;refine rW hx.f hx.p hx.id (fun o ho=> ?_) x.f.comps [] rfl ⟨_,_,_,_,rfl⟩ ?_
 ·obtain⟨l,E,rfl,_⟩:=ho;exact⟨_,_,_,rfl⟩
 intro b hb he;have bi:BI (⟨qO x.f x.src x.ids x.rows,0,0,⟨0,0,0⟩,[],[]⟩:Bd) [] []:=⟨.nil,.nil,fun n=>NS,fun e=>Iff.rfl,xL _,xL _⟩;have:=BI.al2 (ar:=ar) (x:=x) x.f.comps.zipIdx (bi.flags ((List.range' 0 x.f.flags.length).map fun v=>(⟨4,(v:Nat),0⟩:Nd)));obtain⟨h1,h2,h3,h4,h5,h6⟩:BI b (fN ar x) (fE ar x):=by
  rw[he];unfold fN;rw[List.range_eq_range'];exact this
 have hg:=aH3 (X:=X) (l:=b.l) (E:=b.E) MK MK (fun e he=>⟨(h3 _).2 (.inr ⟨e,(h4 e).1 he,.inl Y⟩),(h3 _).2 (.inr ⟨e,(h4 e).1 he,.inr Y⟩)⟩) b.fr b.fo b.c b.h.k b.h.a b.h.b;exact hg.mono fun o ho=>⟨b.l,b.E,ho,h1,h2,MK,MK,h3,h4⟩
end
theorem mu{α:Type}{f:α->Di}{l aa V:List α}{a:α}(hp:l=V++a::aa):(l.map f)[V.length]? =some (f a):=by
 rw[hp,List.map_append,xq (by rw[xm];exact xk _),xm,Nat.sub_self];rfl
theorem iH{α:Type}{l V:List α}(hp:l=V++[]):l.length=V.length:=by rw[hp,xj]
theorem gP{α:Type}{l aa V:List α}{a:α}(hp:l=V++a::aa):l.length=V.length+(aa.length+1):=by rw[hp,xa];rfl
theorem gi{α:Type}{l aa V:List α}{a:α}(hp:l=V++a::aa):l=(V++[a])++aa:=by rw[hp,a_];rfl
section
variable{X:Bv}
end
section
variable{X:Bv}{ar:Dw}{x:Cx}
end
end Go.Proofs.YthicpeihkkokmaaGreatDoor
namespace Go.Fl
def Ur.len(u:Ur):Nat:=u.R.length+u.W.length+u.S.length+u.T.length
end Go.Fl
namespace Go.Proofs.YthicpeihkkokmaaGreatDoor
open Go.Ex Go.RowKit Go.Sort Go.Fl
section
variable{X:Bv}
structure HnU (h:Hn):Prop where
 ss:∀s∈h.body,dL jy s
 l:h.body.length<=12
 n:St.ns h.body<=12
def u0:Ur:=⟨[],[],false,[],[]⟩
end
section
variable{X:Bv}{ar:Dw}{x:Cx}
variable{Q:Di->Prop}{ns:IU}{n k:Nat}{hs:L5}{u:Ur}
end
end Go.Proofs.YthicpeihkkokmaaGreatDoor
namespace Go.Fl
mutual
theorem Ex.bh2:∀(e:Ex) (a:Us),a∈Ex.us e->∃s,a= .rd s
 | .mk op name n args,a,h=>by
  rw[Ex.us,xF] at h;rcases h with h|h
  ·split at h
   ·cases h
   ·exact⟨name,xy.1 h⟩
  ·exact Ex.O2 args a h
theorem Ex.O2:∀(l:List Ex) (a:Us),a∈Ex.cg l->∃s,a= .rd s
 |[],a,h=>nomatch h
 |e::l,a,h=>by
  rw[Ex.cg,xF] at h;exact h.elim (Ex.bh2 e a) (Ex.O2 l a)
end
def Us.ok(R:St->Prop):Us->Prop
 | .sn (.mk k n h es th el)=>R (.mk k n h es th el)/\k=6
 | .tm (.mk k n h es th el)=>R (.mk k n h es th el)/\k=7
 | .wr t=>∃k h es th el,R (.mk k t h es th el)/\(k=1\/k=2\/k=3\/k=9)
 |_=>True
end Go.Fl
namespace Go.Proofs.YthicpeihkkokmaaGreatDoor
open Go.Ex Go.RowKit Go.Sort Go.Fl
section
section
variable{X:Bv}{ar:Dw}{x:Cx}
end
end
section
variable{X:Bv}{ar:Dw}{x:Cx}
end
end Go.Proofs.YthicpeihkkokmaaGreatDoor
