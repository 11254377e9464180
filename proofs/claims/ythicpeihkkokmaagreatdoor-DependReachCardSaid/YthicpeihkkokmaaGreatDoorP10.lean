/- What these functions answer. -/
import Derived.Test.YthicpeihkkokmaaGreatDoorP9
import Derived.Test.YthicpeihkkokmaaGreatDoorP8
import Derived.Test.YthicpeihkkokmaaGreatDoorX11
import Derived.KernelRfl
namespace Go.Proofs.YthicpeihkkokmaaGreatDoor
open Go.Ex Go.RowKit Go.Sort
section
variable{ar:a0f}{x:Cx}
theorem Cf{ns:a0g}{m:Nd}:m∈ei [] ns↔m∈ns:=((FM ns [] .nil).2.1 m).trans a0C
theorem PT(hx:eu ar x){s t:aq}(h: .wr t∈pS x.cm.aS s):∃v,cq x.vn t=some v:=by
 obtain⟨k,hd,es,th,el,hr,hk⟩:=FP hx h;exact hr.1 hk
theorem Y6{t:aq}{v:Nat}(h:cq x.vn t=some v):rN x t=[wN x t]:=by
 unfold rN wN;rw[h];rfl
theorem Yu(hx:eu ar x){s:aq}{k:Nat}{e:Nd×Nd}:e∈gE ar x (s,k)↔∃a∈pS x.cm.aS s,e∈p7 ar x ⟨5,(x.i:Nat),(k:Nat)⟩ a:=by
 have q:=Dw x s;unfold gE;rw[xF,xF,xF,xF,xJ,xJ,List.mem_flatMap,List.mem_flatMap];constructor
 ·rintro(⟨m,hm,rfl⟩|⟨m,hm,rfl⟩|h|⟨t,ht,h⟩|⟨t,ht,h⟩)
  ·obtain⟨t,ht,hm⟩:=List.mem_flatMap.1 (Cf.1 hm);exact⟨.rd t,((q.R t).1 ht).elim (fun h=>nomatch h) id,xJ.2 ⟨m,hm,rfl⟩⟩
  ·obtain⟨hm,_⟩:=List.mem_filter.1 hm;obtain⟨t,ht,hm⟩:=List.mem_flatMap.1 (Cf.1 hm);have ht:=((q.W t).1 ht).elim (fun h=>nomatch h) id;obtain⟨v,hv⟩:=PT hx ht;rw[Y6 hv,xy] at hm;exact⟨.wr t,ht,by rw[hm];exact xy.2 rfl⟩
  ·unfold dE at h;split at h
   ·rename_i hd;exact⟨.dk,(q.D.1 hd).elim (fun h=>nomatch h) id,h⟩
   ·cases h
  ·exact⟨.sn t,((q.S t).1 ht).elim (fun h=>nomatch h) id,h⟩
  ·exact⟨.tm t,((q.T t).1 ht).elim (fun h=>nomatch h) id,h⟩
 ·rintro⟨a,ha,h⟩;cases a with
  |rd t=>
   obtain⟨m,hm,rfl⟩:=xJ.1 h;exact .inl ⟨m,Cf.2 (List.mem_flatMap.2 ⟨t,(q.R t).2 (.inr ha),hm⟩),rfl⟩
  |wr t=>
   obtain⟨v,hv⟩:=PT hx ha;obtain rfl:=xy.1 h;exact .inr (.inl ⟨_,List.mem_filter.2 ⟨Cf.2 (List.mem_flatMap.2 ⟨t,(q.W t).2 (.inr ha),by rw[Y6 hv];exact xy.2 rfl⟩),rfl⟩,rfl⟩)
  |dk=>exact .inr (.inr (.inl (by unfold dE;rw[i_ (q.D.2 (.inr ha))];exact h)))
  |sn t=>exact .inr (.inr (.inr (.inl ⟨t,(q.S t).2 (.inr ha),h⟩)))
  |tm t=>exact .inr (.inr (.inr (.inr ⟨t,(q.T t).2 (.inr ha),h⟩)))
theorem Qs(hx:eu ar x){v:List Hn}(hv:v∈x.cm.aS){h:Hn}(hh:h∈v):∃k,(gK ar x.i)[k]? =some h.name/\hN ar x.i h.name=⟨5,(x.i:Nat),(k:Nat)⟩:=by
 obtain⟨k,al,aR,hk,e⟩:=(CR hx hv hh).nm;refine⟨k,?_,by rw[e];exact Df hx aR hk⟩;rw[Ab aR,e,aP,xx,List.getElem?_range hk];rfl
theorem Zr(hx:eu ar x){k:Nat}{s:aq}(h:(gK ar x.i)[k]? =some s):hN ar x.i s=⟨5,(x.i:Nat),(k:Nat)⟩/\∃v∈x.cm.aS,∃h∈v,h.name=s:=by
 obtain⟨_,ints,tables,al,h1,h2,h3,h4,h5,h6,h7,⟨v0,ov,e0⟩,h9⟩:=hx.f.comps _ _ hx.c;rw[Ab h4] at h;have hk:=iB h;rw[Fx] at hk;rw[aP,xx,List.getElem?_range hk] at h;obtain rfl:nm 104 k=s:=xC h;have lq:k<v0.length:=a0B
 exact⟨Df hx h4 hk,v0,ov,v0[k],List.getElem_mem lq,((h9 v0 ov).2.2 k _ (xc lq)).name⟩
theorem Pp{x:Cx}{e:Nd×Nd}:e∈cE ar x↔∃v∈x.cm.aS,∃h∈v,∃a∈St.cg h.body,e∈p7 ar x (hN ar x.i h.name) a:=by
 unfold cE hE;simp only [List.mem_flatMap,List.mem_flatten];constructor
 ·rintro⟨h,⟨v,hv,hh⟩,r⟩;exact⟨v,hv,h,hh,r⟩
 ·rintro⟨v,hv,h,hh,r⟩;exact⟨h,⟨v,hv,hh⟩,r⟩
theorem aY4(hx:eu ar x){e:Nd×Nd}:e∈rE ar x↔e∈cE ar x:=by
 unfold rE;rw[List.mem_flatMap,Pp];constructor
 ·rintro⟨⟨s,k⟩,hp,hq⟩;obtain⟨a,ha,he⟩:=(Yu hx).1 hq;clear hq;obtain⟨v,hv,h,hh,rfl,hb⟩:=Fz.1 ha;exact⟨v,hv,h,hh,a,hb,by rw[(Zr hx (List.mem_zipIdx_iff_getElem?.1 hp)).1];exact he⟩
 ·rintro⟨v,hv,h,hh,a,ha,he⟩;obtain⟨k,hk,e1⟩:=Qs hx hv hh;rw[e1] at he;exact⟨(h.name,k),List.mem_zipIdx_iff_getElem?.2 hk,(Yu hx).2 ⟨a,Fz.2 ⟨v,hv,h,hh,rfl,ha⟩,he⟩⟩
theorem Pq(hx:tu ar x){e:Nd×Nd}:e∈ES ar x↔e∈fE ar x:=by
 unfold ES fE;rw[List.mem_flatMap,List.mem_flatMap];exact exists_congr fun p=>and_congr_right fun hp=>aY4 (hx.at hp)
theorem Pe{t:aq}:∀{l:a0s} {v:Nat},cq l t=some v->v<l.length
 |[],_,h=>nomatch h
 |a::l,v,h=>by
  have h:(if a=t then some 0 else(cq l t).map (· +1))=some v:=h;split at h
  ·cases h;exact Nat.succ_pos _
  ·obtain⟨w,h1,rfl⟩:=xp.1 h;exact Nat.succ_lt_succ (Pe h1)
theorem JH(_:eu ar x){k:Nat}{s:aq}(h:(gK ar x.i)[k]? =some s){n:Nd}(hn:n∈gN x (s,k)):n∈yV ar x:=by
 unfold yV;exact List.mem_append_right _ (List.mem_flatMap.2 ⟨(s,k),List.mem_zipIdx_iff_getElem?.2 h,hn⟩)
theorem X1{t:aq}{v:Nat}(h:cq x.vn t=some v):(⟨1,(x.i:Nat),(v:Nat)⟩:Nd)∈(List.range x.cm.vars.length).map (fun v=>(⟨1,(x.i:Nat),(v:Nat)⟩:Nd)):=by
 have:=Pe h;unfold Cx.vn at this;rw[xm] at this;exact xJ.2 ⟨v,List.mem_range.2 this,rfl⟩
theorem aY5(hx:tu ar x){n:Nd}:n∈NS ar x↔n∈fN ar x\/∃e∈fE ar x,n=e.1\/n=e.2:=by
 have inE:∀{p:Cm×Nat},p∈x.f.comps.zipIdx->∀{e:Nd×Nd},e∈cE ar (eo x p)->e∈fE ar x:=fun hp _ he=>List.mem_flatMap.2 ⟨_,hp,he⟩
 have Bv:∀{p:Cm×Nat},p∈x.f.comps.zipIdx->∀{m:Nd},m∈yV ar (eo x p)->m∈NS ar x:=fun hp _ hm=>List.mem_append_right _ (List.mem_flatMap.2 ⟨_,hp,hm⟩)
 constructor
 ·intro h;rcases xF.1 h with h|h
  ·exact .inl (List.mem_append_left _ h)
  ·obtain⟨p,hp,h⟩:=List.mem_flatMap.1 h;have hc:=hx.at hp;rcases xF.1 h with h|h
   ·exact .inl (List.mem_append_right _ (List.mem_flatMap.2 ⟨p,hp,List.mem_append_left _ h⟩))
   ·obtain⟨⟨s,k⟩,hs,h⟩:=List.mem_flatMap.1 h;obtain⟨e1,v,hv,hn,hh,rfl⟩:=Zr hc (List.mem_zipIdx_iff_getElem?.1 hs);have q:=Dw (eo x p) hn.name;have Sy:∀{a:Us},a∈pS (eo x p).cm.aS hn.name->∀{e:Nd×Nd},e∈p7 ar (eo x p) ⟨5,((eo x p).i:Nat),(k:Nat)⟩ a->n=e.1\/n=e.2->n∈fN ar x\/∃e∈fE ar x,n=e.1\/n=e.2:=fun{a} ha e he fL=>by
     obtain⟨v',gD,h',Mm,e2,hb⟩:=Fz.1 ha;exact .inr ⟨e,inE hp (Pp.2 ⟨v',gD,h',Mm,a,hb,by rw[e2,e1];exact he⟩),fL⟩
    unfold gN at h;rw[xF,xF,xF] at h;rcases h with h|h|h|h
    ·obtain rfl:=xy.1 h;refine .inl (List.mem_append_right _ (List.mem_flatMap.2 ⟨p,hp,List.mem_append_right _ (xJ.2 ⟨hn,List.mem_flatten.2 ⟨v,hv,hh⟩,e1⟩)⟩))
    ·unfold dN at h;split at h
     ·rename_i hd;obtain rfl:=xy.1 h;exact Sy ((q.D.1 hd).elim (fun h=>nomatch h) id) (e:=(⟨2,((eo x p).i:Nat),0⟩,⟨5,((eo x p).i:Nat),(k:Nat)⟩)) xn (.inl Y)
     ·cases h
    ·obtain⟨t,ht,rfl⟩:=xJ.1 h;exact Sy (((q.S t).1 ht).elim (fun h=>nomatch h) id) (e:=(⟨5,((eo x p).i:Nat),(k:Nat)⟩,sN (eo x p) t)) xn (.inr Y)
    ·obtain⟨t,ht,rfl⟩:=xJ.1 h;exact Sy (((q.T t).1 ht).elim (fun h=>nomatch h) id) (e:=(⟨5,((eo x p).i:Nat),(k:Nat)⟩,⟨3,((eo x p).i:Nat),0⟩)) xn (.inr Y)
 ·rintro(h|⟨e,he,hn⟩)
  ·rcases xF.1 h with h|h
   ·exact List.mem_append_left _ h
   ·obtain⟨p,hp,h⟩:=List.mem_flatMap.1 h;have hc:=hx.at hp;rcases xF.1 h with h|h
    ·exact Bv hp (List.mem_append_left _ h)
    ·obtain⟨hn,hm,rfl⟩:=xJ.1 h;obtain⟨v,hv,hh⟩:=List.mem_flatten.1 hm;obtain⟨k,hk,e1⟩:=Qs hc hv hh;exact Bv hp (JH hc hk (by rw[e1];exact List.mem_append_left _ (xy.2 rfl)))
  ·obtain⟨p,hp,he⟩:=List.mem_flatMap.1 he;have hc:=hx.at hp;obtain⟨v,hv,fL,hh,a,ha,he⟩:=Pp.1 he;obtain⟨k,hk,e1⟩:=Qs hc hv hh;rw[e1] at he;have hu:a∈pS (eo x p).cm.aS fL.name:=Fz.2 ⟨v,hv,fL,hh,rfl,ha⟩;have q:=Dw (eo x p) fL.name;have hg:=hx.f.n;have ho:(⟨5,((eo x p).i:Nat),(k:Nat)⟩:Nd)∈NS ar x:=Bv hp (JH hc hk (List.mem_append_left _ (xy.2 rfl)));have gn:∀{m:Nd},m∈gN (eo x p) (fL.name,k)->m∈NS ar x:=fun hm=>Bv hp (JH hc hk hm)
   have to:∀{i al j},ar[i]? =some al->j<al.length->hN ar i (nm 104 j)∈NS ar x:=fun{i al j} aR hj=>by
    have hi:=iB aR;have HF:(x.f.comps[i]' a0B,i)∈x.f.comps.zipIdx:=List.mem_zipIdx_iff_getElem?.2 (xc a0B);have oH:=hx.at HF;rw[Df oH aR hj];exact Bv HF (JH oH (k:=j) (s:=nm 104 j) (by show(gK ar i)[j]? =_;rw[Ab aR,aP,xx,List.getElem?_range hj];rfl) (List.mem_append_left _ (xy.2 rfl)))
   have th:∀{o y z:Nd},o∈NS ar x->y∈NS ar x->z∈NS ar x->e∈sL o y z->n∈NS ar x:=fun h1 h2 h3 h=>by
    unfold sL at h;simp only [xG,List.not_mem_nil,or_false] at h;rcases h with rfl|rfl|rfl<;>rcases hn with rfl|rfl<;>assumption
   cases a with
   |rd t=>
    obtain⟨m,hm,rfl⟩:=xJ.1 he;rcases hn with rfl|rfl
    ·unfold rN at hm;split at hm
     ·rename_i v hv;obtain rfl:=xy.1 hm;exact Bv hp (List.mem_append_left _ (X1 hv))
     ·split at hm
      ·rename_i w hw;obtain rfl:=xy.1 hm;have:w<x.f.flags.length:=by
        have:=Pe hw;unfold Cx.fn at this;rw[xm] at this;exact this
       exact List.mem_append_left _ (xJ.2 ⟨w,List.mem_range.2 this,rfl⟩)
      ·cases hm
    ·exact ho
   |wr t=>
    obtain⟨v,hv⟩:=PT hc hu;obtain rfl:=xy.1 he;rcases hn with rfl|rfl
    ·exact ho
    ·refine Bv hp (List.mem_append_left _ ?_);have:=X1 hv;unfold wN;rw[hv];exact this
   |dk=>
    have hd:(⟨2,((eo x p).i:Nat),0⟩:Nd)∈NS ar x:=gn (List.mem_append_right _ (List.mem_append_left _ (by unfold dN;rw[i_ (q.D.2 (.inr hu))];exact xy.2 rfl)));have he:e=(⟨2,((eo x p).i:Nat),0⟩,⟨5,((eo x p).i:Nat),(k:Nat)⟩)\/e=(⟨5,((eo x p).i:Nat),(k:Nat)⟩,⟨2,((eo x p).i:Nat),0⟩):=by
     rcases xG.1 he with h|h
     ·exact .inl h
     ·exact .inr (xy.1 h)
    rcases he with rfl|rfl<;>rcases hn with rfl|rfl<;>assumption
   |sn t=>
    have h2:sN (eo x p) t∈NS ar x:=gn (List.mem_append_right _ (List.mem_append_right _ (List.mem_append_left _ (xJ.2 ⟨t,(q.S t).2 (.inr hu),rfl⟩))));have Tl:=FP hc hu;obtain⟨kk,nn,hd,es,th',el⟩:=t;obtain⟨⟨_,h4,_⟩,rfl⟩:=Tl;obtain⟨i,al,j,aR,rfl,hj,rfl⟩:=h4 rfl;have e5:cN (eo x p) [(97+i).toUInt8]=i:=by unfold cN;rw[IQ hc.f (iB aR)];rfl
    refine th ho h2 (to aR hj) ?_;have he:e∈sL ⟨5,((eo x p).i:Nat),(k:Nat)⟩ (sN (eo x p) (.mk 6 [(97+i).toUInt8] (nm 104 j) es th' el)) (hN ar (cN (eo x p) [(97+i).toUInt8]) (nm 104 j)):=he;rw[e5] at he;exact he
   |tm t=>
    have h2:(⟨3,((eo x p).i:Nat),0⟩:Nd)∈NS ar x:=gn (List.mem_append_right _ (List.mem_append_right _ (List.mem_append_right _ (xJ.2 ⟨t,(q.T t).2 (.inr hu),rfl⟩))));have Tl:=FP hc hu;obtain⟨kk,nn,hd,es,th',el⟩:=t;obtain⟨⟨_,_,h4⟩,rfl⟩:=Tl;obtain⟨al,j,aR,hj,rfl⟩:=h4 rfl;exact th ho h2 (to aR hj) he
end
noncomputable def GH(r:a0d):Bool:=match r with|[.int .u8 (.ofNat n)]=>Nat.blt n 256|_=>false
noncomputable def OS(G:a0b->Nat->Nat)(i:Nat)(ds:a0d):Option (List D):=match i,ds with
 |114,[.sl rows]=>bs (Nat.ble rows.length 1000000&&rows.all GH) (some ((List.range 32).map fun k=> .int .u8 (G rows k))) none
 |_,_=>none
theorem aJ8(G:a0b->Nat->Nat):Dk F (OS G) 100000 183 0 []=some [.bool true]:=by kernel_rfl
section
variable{X:a0a}
theorem X7(rows:a0b):∃g:Nat->Nat,(Nat.ble rows.length 1000000&&rows.all GH)=true->run F X 114 0 [.sl rows]=some ((List.range 32).map fun k=> .int .u8 (g k)):=by
 cases h:Nat.ble rows.length 1000000&&rows.all GH with
 |false=>exact⟨fun _=>0,fun h=>(nomatch h)⟩
 |true=>
  rw[xf] at h;obtain⟨o,h1,h2⟩:=X6 (X:=X) (rows:=rows) (by have:=xh h.1;omega) (fun r hr=>by
   have:=List.all_eq_true.1 h.2 r hr;unfold GH at this;split at this
   ·rename_i n;exact⟨_,rfl,n,rfl,xK (xh this) (xk 256)⟩
   ·cases this)
  obtain⟨e1,e2⟩:=h2.ol;have hg:∀k,∃n:Nat,k<o.length->o[k]? =some (.int .u8 n):=fun k=>by
   by_cases hk:k<o.length
   ·obtain⟨n,hn,_⟩:=e2 _ (List.getElem_mem hk);exact⟨n,fun _=>by rw[xc hk,hn];rfl⟩
   ·exact⟨0,fun h=>absurd h hk⟩
  refine⟨fun k=>(hg k).choose,fun _=>h1.trans (congrArg some (List.ext_getElem? fun k=> ?_))⟩;by_cases hk:k<o.length
  ·rw[(hg k).choose_spec hk,xx,List.getElem?_range a0B];rfl
  ·rw[List.getElem?_eq_none a0B,List.getElem?_eq_none (by rw[xm,List.length_range];omega)]
theorem aJ7:Rn F X 183 0 [] (·=[.bool true]):=by
 refine⟨_,N7 (X:=X) (O:=OS fun rows=>(X7 (X:=X) rows).choose) (fun i ds o h=> ?_) _ _ _ _ _ (aJ8 _),rfl⟩;unfold OS at h;split at h
 ·rename_i rows;cases hb:Nat.ble rows.length 1000000&&rows.all GH with
  |true=>
   rw[hb] at h;cases h;exact(X7 rows).choose_spec hb
  |false=>rw[hb] at h;cases h
 ·cases h
end
section
variable{X:a0a}{ar:a0f}{x:Cx}
theorem JB{l:a0g}(hl:l.length<=1000000)(n:Nd):aF (.app 3 24) [.sl (Nd.rs l),.sl [n.r]]=some (.sl (Nd.rs (l++[n]))):=by
 have e:(Nd.rs l).length=l.length:=xm _;rw[gb (es:=3) (row:=n.r) rfl rfl a0B a0B];show some (D.sl (List.map Nd.r l++[n.r]))=some (D.sl (List.map Nd.r (l++[n])));rw[List.map_append];rfl
theorem JI{k:Int}(h0:0<=k)(h1:k<=255):aF (.kS .u8) [.int .i64 k]=some (.int .u8 k):=by
 obtain⟨n,rfl⟩:∃n:Nat,k=n:=⟨k.toNat,a0B⟩;exact yf a0B
theorem ag5(v:Bool)(m n:Nd):aF (.te [.u8,.i64,.i64] v) [.agg m.r,.agg n.r]=some (.bool (decide (m=n) !=v)):=by
 have:pA [.u8,.i64,.i64] m.r n.r=some (decide (m=n)):=by
  obtain⟨a,b,c⟩:=m;obtain⟨d,e,f⟩:=n;simp only [pA,and_self,if_true,Option.map_some,Nd.mk.injEq]
  congr 1
  rw[Bool.eq_iff_iff];simp only [xf,decide_eq_true_eq,Bool.and_true]
 show(pA [.u8,.i64,.i64] m.r n.r).map (fun r=>D.bool (r !=v))=_;rw[this];rfl
theorem bC8(m n:Nd):aF (.te [.u8,.i64,.i64] true) [.agg m.r,.agg n.r]=some (.bool (!decide (m=n))):=by rw[ag5,Bool.bne_true]
theorem Y3{l:a0g}(hl:l.length<=1000000)(hk:∀n∈l,0<=n.k/\n.k<=255):∀(aa V:a0g),l=V++aa->Rn F X 158 1 [.sl (Nd.rs l),.sl (bw l),jD l.length,jD V.length] (·=[.bool true])
 |[],V,hp=>by
  have aL:=iH hp;exact wr Y<|wn Y af<|wt Y Y
 |n::aa,V,hp=>by
  have aL:=gP hp;have ao:(Nd.rs l)[V.length]? =some n.r:=mu hp;have hn:=hk n (by rw[hp];simp);have ih:=Y3 hl hk aa (V++[n]) (gi hp);rw[xa] at ih;exact wr Y<|wy Y af<|wo Y (ax (rp hp) rfl)<|wg 1 Y<|wo Y (ax ao Y)<|wg 1 Y<|wo Y (JI hn.1 hn.2)<|Wp.qQ Y (by rw[bC8,u_ rfl];rfl)<|wo Y oA<|wj ih
theorem aD5{l:a0g}(hl:l.length<=1000000)(hk:∀n∈l,0<=n.k/\n.k<=255):Rn F X 158 0 [.sl (Nd.rs l),.sl (bw l)] (·=[.bool true]):=
 Rn.of (fd:=KA) (t:=be5) rfl rfl rfl rfl (e_ Y (au (n:=l.length) (xm _)) rfl (e_ Y (au (kV l)) rfl (Wp.qQ (ds:=[jD l.length,jD l.length]) rfl (by rw[gG,f_ a0B]) (e_ Y (au (kV l)) rfl (b_ Y (Y3 hl hk l [] rfl))))))
theorem XW{l:a0g}(h:l.Nodup):l7 (gW l):=by
 have h1:=O4 l;have h2:(gW l).Nodup:=(oN l).nodup_iff.2 h;exact(h1.and h2).imp fun h=>by have:=Xn h.1 fun e=>h.2 e.symm;exact this
theorem Zl{n:Nd}(h:n∈NS ar x):1<=n.k/\n.k<=6:=by
 have key:n.k=1\/n.k=2\/n.k=3\/n.k=4\/n.k=5\/n.k=6:=by
  rcases xF.1 h with h|h
  ·obtain⟨v,_,rfl⟩:=xJ.1 h;exact .inr (.inr (.inr (.inl Y)))
  ·obtain⟨p,_,h⟩:=List.mem_flatMap.1 h;rcases xF.1 h with h|h
   ·obtain⟨v,_,rfl⟩:=xJ.1 h;exact .inl Y
   ·obtain⟨q,_,h⟩:=List.mem_flatMap.1 h;unfold gN at h;rw[xF,xF,xF] at h;rcases h with h|h|h|h
    ·obtain rfl:=xy.1 h;exact .inr (.inr (.inr (.inr (.inl Y))))
    ·unfold dN at h;split at h
     ·obtain rfl:=xy.1 h;exact .inr (.inl Y)
     ·cases h
    ·obtain⟨t,_,rfl⟩:=xJ.1 h;exact .inr (.inr (.inr (.inr (.inr Y))))
    ·obtain⟨t,_,rfl⟩:=xJ.1 h;exact .inr (.inr (.inl Y))
 omega
theorem aE8(hx:tu ar x){l:a0g}(hd:l.Nodup)(hm:∀n,n∈l↔n∈fN ar x\/∃e∈fE ar x,n=e.1\/n=e.2):gW l=ei [] (NS ar x):=
 aU0 (XW hd) (FM _ [] .nil).1 fun n=>by
  rw[(oN l).mem_iff,hm,<-aY5 hx,Cf]
end
inductive rD (E:Nd×Nd->Prop):Nd->Nd->Prop
 |rfl (a:Nd):rD E a a
 |head {a b c:Nd}:E (a,b)->rD E b c->rD E a c
theorem rD.snoc{E:Nd×Nd->Prop}{a b c:Nd}(h:rD E a b)(k:E (b,c)):rD E a c:=by
 induction h with
 |rfl a=>exact .head k (.rfl _)
 |head e _ ih=>exact .head e (ih k)
theorem rD.up{E:Nd×Nd->Prop}{P:Nd->Prop}(hP:∀a b,E (a,b)->P b->P a){a b:Nd}(h:rD E a b)(k:P b):P a:=by
 induction h with
 |rfl a=>exact k
 |head e _ ih=>exact hP _ _ e (ih k)
theorem rD.down{E:Nd×Nd->Prop}{P:Nd->Prop}(hP:∀a b,E (a,b)->P a->P b){a b:Nd}(h:rD E a b)(k:P a):P b:=by
 induction h with
 |rfl a=>exact k
 |head e _ ih=>exact ih (hP _ _ e k)
theorem Vx(m:Nd):∀H:G2,∃v,(jG m.r (bu H)).getD (.sl [])= .sl (Nd.rs v)/\((m,v)∈H\/v=[]/\∀p∈H,p.1≠m)
 |[]=>⟨[],rfl,.inr ⟨rfl,fun p hp=>nomatch hp⟩⟩
 |p::H=>by
  have e:jG m.r (bu (p::H))=if kf m.r (jB p) then some (.sl (Nd.rs p.2)) else jG m.r (bu H):=rfl
  rw[e,M2];by_cases h:p.1=m
  ·rw[u_ h,i_ Y];exact⟨p.2,rfl,.inl (h▸xn)⟩
  ·rw[f_ h,j_ Bool.noConfusion];obtain⟨v,h1,h2⟩:=Vx m H;refine⟨v,h1,h2.imp (xo _) fun h2=>⟨h2.1,fun q hq=> ?_⟩⟩;rcases xG.1 hq with rfl|hq
   ·exact h
   ·exact h2.2 q hq
theorem aY3{k p:Nd}{es:a0i}:p∈tg k es↔(k,p)∈es:=by
 unfold tg;rw[xJ];constructor
 ·rintro⟨e,he,rfl⟩;have:=List.mem_filter.1 he;have h:=of_decide_eq_true this.2;rw[<-h];exact this.1
 ·exact fun h=>⟨_,List.mem_filter.2 ⟨h,u_ rfl⟩,rfl⟩
theorem aX7(m:Nd)(es:a0i):∃v,aF (.u5 KN) [.sl (nx es),.agg m.r,.sl []]=some (.sl (Nd.rs v))/\(∀p,p∈v↔(m,p)∈es)/\v.length<=es.length:=by
 obtain⟨H,h1,h2,_⟩:=ND ((C8 es).map fun k=>(k,gW (tg k es)));obtain⟨v,h3,h4⟩:=Vx m H;have e:aF (.u5 KN) [.sl (nx es),.agg m.r,.sl []]=some ((jG m.r (nx es)).getD (.sl [])):=rfl;refine⟨v,by rw[e,<-h3];unfold nx;rw[h2],?_⟩;rcases h4 with h4|⟨rfl,h4⟩
 ·obtain⟨k,_,e⟩:=xJ.1 (h1.mem_iff.1 h4);cases e;exact⟨fun p=>(oN _).mem_iff.trans aY3,by rw[(oN _).length_eq];exact J6 _ _⟩
 ·refine⟨fun p=>⟨fun h=>(nomatch h),fun h=> ?_⟩,xL _⟩;have hk:m∈C8 es:=FA.2 ((oN _).mem_iff.2 (xJ.2 ⟨_,h,rfl⟩));exact absurd rfl (h4 _ (h1.mem_iff.2 (xJ.2 ⟨m,hk,rfl⟩)))
theorem Yx(n:Nd):∀l:a0g,(jG n.r (l.map cL)).getD (.bool false)= .bool (decide (n∈l))
 |[]=>rfl
 |x::l=>by
  have e:jG n.r ((x::l).map cL)=if kf n.r (cL x) then some (.bool true) else jG n.r (l.map cL):=rfl
  have e2:kf n.r (cL x)=decide (x=n):=CW n x;rw[e,e2];by_cases h:x=n
  ·rw[u_ h,i_ Y,u_ (h▸xn)];rfl
  ·rw[f_ h,j_ Bool.noConfusion,Yx n l]
   congr 1
   exact decide_eq_decide.2 ⟨xo _,fun k=>(xG.1 k).elim (fun e=>absurd e.symm h) id⟩
theorem Kh(n:Nd)(l:a0g):aF (.u5 KN) [.sl (l.map cL),.agg n.r,.bool false]=some (.bool (decide (n∈l))):=congrArg some (Yx n l)
theorem bq1(m n:Nd):aF (.te [.u8,.i64,.i64] false) [.agg m.r,.agg n.r]=some (.bool (decide (m=n))):=by rw[ag5,Bool.bne_false]
section
variable{X:a0a}{F:List FD}{i:Nat}{env ds:a0d}{Q:a0d->Prop}
theorem Wp.tf{f j:Nat}{us:a0e}{t e:DT}{p:Prop}[Decidable p](h1:aH (aX (lk env)) us=some ds)(h2:Rn F X j 0 ds (·=[.bool (decide p)]))(ht:p->Wp F X i t (env++[.bool true]) Q)(he: ¬p->Wp F X i e (env++[.bool false]) Q):
 Wp F X i (.call f j us [some (.bool true)] t (.call f j us [some (.bool false)] e .stop)) env Q:=by
 by_cases h:p
 ·rw[u_ h] at h2;exact Wp.ig h1 h2 rfl (ht h)
 ·rw[f_ h] at h2;exact Wp.AG h1 h2 rfl (Wp.ig h1 h2 rfl (he h))
end
section
variable{X:a0a}
theorem XR(x y:Nd):qx x y=0↔x=y:=by
 have h1:∀a b:Int,pa a b=0↔a=b:=fun a b=>by
  unfold pa;split
  ·omega
  ·split<;>omega
 rw[Nd.eq_iff,<-h1 x.k,<-h1 x.a,<-h1 x.b];unfold qx;split
 ·omega
 ·split<;>omega
theorem aO6{n:Nat}(h:n<=100000000):aF (.kS .u64) [jD n]=some (gJ n):=by
 show some (D.int .u64 (IntKind.u64.wrap n))=_;rw[IntWalk.u64_in _ a0B]
theorem aX4{n:Nat}(h:n<=100000000):aF (.kS .i64) [gJ n]=some (jD n):=Ai a0B
theorem SF{l:a0g}(hl:l.length<=1000000)(hs:l7 l)(t:Nd):∀(d lo hi:Nat),hi - lo<=d->lo<=hi->hi<=l.length->(∀j (h:j<l.length),j<lo->aA l[j] t=true)->(∀j (h:j<l.length),hi<=j->aA l[j] t=false)->
 Rn F X 135 1 ([.sl (Nd.rs l),jD l.length,jD lo,jD hi]++t.r) (fun o=>∃k,o=[jD k,.bool (decide (t∈l))])
 |d,lo,hi,hd,h1,h2,h3,h4=>by
  have EU:∀j (h:j<l.length),(Nd.rs l)[j]? =some l[j].r:=fun j h=>by
   show(l.map Nd.r)[j]? =_;rw[xx,xc h];rfl
  refine wr Y ?_;by_cases bm:lo<hi
  ·obtain⟨d,rfl⟩:∃e,d=e+1:=⟨d - 1,a0B⟩;have hm:(lo+hi)/2<l.length:=a0B
   refine wy Y af<|wo Y (bg (a:=lo) (b:=hi) a0B)<|wo Y (aO6 a0B)<|wo Y (IT (lo+hi) 1 a0H)<|wo Y (aX4 a0B)<|wo Y (ax (EU _ hm) rfl)<|wg 1 Y ?_;dsimp only [c_,n_];refine W.lt Y Y ?_ ?_<;>intro h
   ·refine wo Y oA<|b_ Y ?_;refine SF hl hs t d _ hi a0B a0B h2 (fun j hj bm=> ?_) h4;by_cases e:j=(lo+hi)/2
    ·subst e;exact h
    ·exact JN ((List.pairwise_iff_getElem.1 hs) j _ hj hm a0B) h
   ·refine b_ Y ?_;refine SF hl hs t d lo _ a0B a0B a0B h3 (fun j hj aN=> ?_);cases hc:aA l[j] t with
    |false=>rfl
    |true=>
     by_cases e:j=(lo+hi)/2
     ·subst e;rw[hc] at h;cases h
     ·have:=JN ((List.pairwise_iff_getElem.1 hs) _ j hm hj a0B) hc;rw[this] at h;cases h
  ·obtain rfl:hi=lo:=a0B
   have L5:∀x:Nd,aA x x=false:=qp.irrefl;have o9:t∈l↔∃h:hi<l.length,l[hi]=t:=by
    constructor
    ·intro hm;obtain⟨j,hj,rfl⟩:=List.getElem_of_mem hm;have jv:hi<=j:=by
      by_cases h:j<hi
      ·have:=h3 j hj h;rw[L5] at this;cases this
      ·omega
     by_cases e:hi=j
     ·subst e;exact⟨hj,rfl⟩
     ·have a:=h4 hi a0B (xk _);rw[(List.pairwise_iff_getElem.1 hs) hi j a0B hj a0B] at a;cases a
    ·rintro⟨h,rfl⟩;exact List.getElem_mem h
   refine wn Y af ?_;by_cases hb:hi<l.length
   ·refine wy Y af<|wo Y (ax (EU _ hb) rfl)<|wg 2 Y ?_;dsimp only [c_,n_];refine Wp.ig (o:=[gm (qx l[hi] t)]) rfl YO rfl<|d_ (ds:=[gm (qx l[hi] t),gm 0]) rfl ay ?_ ?_<;>intro h
    ·exact wt Y ⟨hi,by rw[u_ (o9.2 ⟨hb,(XR _ _).1 h⟩)]⟩
    ·exact wt Y ⟨hi,by rw[f_ fun hm=>h ((XR _ _).2 (o9.1 hm).2)]⟩
   ·refine wn Y af<|wt Y ⟨hi,?_⟩;rw[f_ fun hm=>hb (o9.1 hm).1]
theorem rV{l:a0g}(hl:l.length<=1000000)(hs:l7 l)(t:Nd):Rn F X 135 0 ([.sl (Nd.rs l)]++t.r) (fun o=>∃k,o=[jD k,.bool (decide (t∈l))]):=by
 exact wr Y<|wo Y (au (xm _))<|b_ Y (SF hl hs t l.length 0 l.length a0B a0B (xk _) (fun _ _ h=>absurd h (Nat.not_lt_zero _)) fun _ h k=>absurd h a0B)
theorem ix1{l:a0g}(hl:l.length<=1000000)(t:Nd):∀(aa V:a0g),l=V++aa->Rn F X 134 1 ([.sl (Nd.rs l),jD l.length,jD V.length]++t.r) (fun o=>∃k:Int,o=[.int .i64 k]/\(0<=k↔t∈aa))
 |[],V,hp=>by
  have aL:=iH hp;exact wr Y<|wn Y af<|wt Y ⟨-1,rfl,fun h=>absurd h a0H,fun h=>(nomatch h)⟩
 |n::aa,V,hp=>by
  have aL:=gP hp;have ao:(Nd.rs l)[V.length]? =some n.r:=mu hp;have ih:=ix1 hl t aa (V++[n]) (gi hp);rw[xa] at ih;refine wr Y<|wy Y af<|wo Y (ax ao Y)<|wg 1 Y<|d_ Y (bq1 t n) ?_ ?_<;>intro h
  ·exact wt Y ⟨(V.length:Nat),rfl,fun _=>h▸xn,fun _=>Int.natCast_nonneg _⟩
  ·exact wo Y oA<|b_ Y (ih.mono fun o ⟨k,e,hk⟩=>⟨k,e,hk.trans ⟨xo _,fun m=>(xG.1 m).elim (fun e=>absurd e h) id⟩⟩)
theorem bl7{l:a0g}(hl:l.length<=1000000)(t:Nd):Rn F X 134 0 ([.sl (Nd.rs l)]++t.r) (fun o=>∃k:Int,o=[.int .i64 k]/\(0<=k↔t∈l)):=by
 exact wr Y<|wo Y (au (xm _))<|wj (ix1 hl t l [] rfl)
end
def my(N:a0g)(s:a0g×a0g)(p:Nd):a0g×a0g:=if p∈s.1 then s else if p∈N then(s.1++[p],s.2++[p]) else s
structure VQ (N L I O I' O':a0g):Prop where
 m:∀x,x∈I'↔x∈I\/x∈L/\x∈N
 o:∀x,x∈O'↔x∈O\/x∈I'/\x∉I
 nd:I.Nodup->I'.Nodup
 len:O'.length+I.length=O.length+I'.length
theorem Gf(N:a0g):∀(L I O:a0g),VQ N L I O (L.foldl (my N) (I,O)).1 (L.foldl (my N) (I,O)).2
 |[],I,O=>⟨fun x=>a0C,fun x=>a0C,id,rfl⟩
 |p::L,I,O=>by
  have e:(p::L).foldl (my N) (I,O)=L.foldl (my N) (my N (I,O) p):=rfl;rw[e];by_cases h1:p∈I
  ·rw[show my N (I,O) p=(I,O) from i_ h1];have h:=Gf N L I O;exact⟨fun x=>by rw[h.m];grind,h.o,h.nd,h.len⟩
  ·by_cases h2:p∈N
   ·rw[show my N (I,O) p=(I++[p],O++[p]) from(j_ h1).trans (i_ h2)];have h:=Gf N L (I++[p]) (O++[p]);have hm:=h.m;have ho:=h.o;have hl:=h.len;rw[xa,xa,List.length_singleton] at hl;refine⟨fun x=>by rw[hm];grind,fun x=> ?_,fun k=>h.nd (Jj k h1),a0B⟩;have:=hm x;have:=hm p;rw[ho];grind
   ·rw[show my N (I,O) p=(I,O) from(j_ h1).trans (j_ h2)];have h:=Gf N L I O;exact⟨fun x=>by rw[h.m];grind,h.o,h.nd,h.len⟩
theorem yc(l:a0g):(Nd.rs l).length=l.length:=xm _
section
variable{X:a0a}{N:a0g}{a b:a0b}
theorem cf1(hN:N.length<=1000000)(I:a0g):∀(aa V:a0g),N=V++aa->Rn F X 136 1 [.sl (Nd.rs (V.filter fun n=>decide (n∈I))),.sl (Nd.rs N),jD N.length,jD V.length,.sl a,.sl b,.sl (I.map cL)] (·=[.sl (Nd.rs (N.filter fun n=>decide (n∈I))),.sl (Nd.rs N),.sl a,.sl b,.sl (I.map cL)])
 |[],V,hp=>by
  have aL:=iH hp;rw[xj] at hp;subst hp;exact wr Y<|wn Y af<|wt Y Y
 |n::aa,V,hp=>by
  have aL:=gP hp;have ih:=cf1 hN I aa (V++[n]) (gi hp);rw[xa,List.filter_append] at ih;have ho:(V.filter fun n=>decide (n∈I)).length<=1000000:=xH (List.length_filter_le _ _) a0B;refine wr Y<|wy Y af<|wo Y (ax (mu hp) rfl)<|wg 1 Y ?_;dsimp only [c_,n_];refine d_ Y (Kh n I) ?_ ?_<;>intro h
  ·rw[show[n].filter (fun n=>decide (n∈I))=[n] from by simp[h]] at ih;exact wg 2 Y<|wo Y (JB ho n)<|wo Y oA<|wj ih
  ·rw[show[n].filter (fun n=>decide (n∈I))=[] from by simp[h],xj] at ih;exact wo Y oA<|wj ih
theorem br7(hN:N.length<=1000000)(I:a0g):Rn F X 136 0 [.sl (Nd.rs N),.sl a,.sl b,.sl (I.map cL)] (·=[.sl (Nd.rs (N.filter fun n=>decide (n∈I))),.sl (Nd.rs N),.sl a,.sl b,.sl (I.map cL)]):=by
 exact wr Y<|wo Y (au (yc N))<|wj (cf1 hN I N [] rfl)
theorem Ua(hN:N.length<=1000000)(hs:l7 N){h:Nat}(hh:h=1\/h=3){L:a0g}(hL:L.length<=1000000){Q:a0d->Prop}:∀(aa V:a0g),L=V++aa->∀{I O:a0g},I.Nodup->(∀x∈I,x∈N)->O.length<=I.length->
 Rn F X 138 2 [.sl (Nd.rs N),.sl a,.sl b,.sl (Nd.rs (aa.foldl (my N) (I,O)).2),.sl ((aa.foldl (my N) (I,O)).1.map cL)] Q->
 Rn F X 138 h [.sl (Nd.rs L),jD L.length,jD V.length,.sl (Nd.rs N),.sl a,.sl b,.sl (Nd.rs O),.sl (I.map cL)] Q
 |[],V,hp,I,O,_,_,_,K=>by
  have aL:=iH hp;rcases hh with rfl|rfl<;>exact Rn.of (fd:=Dj) rfl rfl rfl rfl (Wp.c8 (ds:=[jD V.length,jD L.length]) rfl af a0B (b_ Y K))
 |p::aa,V,hp,I,O,h1,h2,h3,K=>by
  have aL:=gP hp;have next:=fun{I' O':a0g} k1 k2 k3 k4=>Ua hN hs hh hL (Q:=Q) aa (V++[p]) (gi hp) (I:=I') (O:=O') k1 k2 k3 k4
  rw[xa] at next;rw[show(p::aa).foldl (my N) (I,O)=aa.foldl (my N) (my N (I,O) p) from Y] at K;have aE:I.length<=N.length:=h1.length_le_of_subset fun x hx=>h2 x hx
  obtain⟨_,hq,k,rfl⟩:=rV (X:=X) hN hs p;have bn:Rn F X 135 0 (.sl (Nd.rs N)::p.r) (·=[jD k,.bool (decide (p∈N))]):=⟨_,hq,rfl⟩;have EU:=mu (f:=Nd.r) hp
  rcases hh with rfl|rfl
  all_goals
   refine Rn.of (fd:=Dj) rfl rfl rfl rfl (Wp.dt (ds:=[jD V.length,jD L.length]) rfl af a0B (e_ Y (ax EU rfl) rfl (o_ (l:=p.r) rfl rfl rfl ?_)));dsimp only [c_,n_];refine d_ Y (Kh p I) (fun hI=> ?_) (fun hI=>Wp.note ?_)
   ·rw[show my N (I,O) p=(I,O) from i_ hI] at K;exact wo Y oA<|wj (next h1 h2 h3 K)
   by_cases hP:p∈N
   ·rw[show my N (I,O) p=(I++[p],O++[p]) from(j_ hI).trans (i_ hP)] at K;rw[u_ hP] at bn;have up:=uo p I;rw[show iI p I=I++[p] from j_ hI] at up;exact wL Y bn rfl<|wo Y up<|wg 2 Y<|wo Y (JB a0B p)<|wo Y oA<|b_ Y (next (Jj h1 hI) (fun x hx=>(xF.1 hx).elim (h2 x) fun e=>xy.1 e▸hP) (by rw[xa,xa];omega) K)
   ·rw[show my N (I,O) p=(I,O) from(j_ hI).trans (j_ hP)] at K;rw[f_ hP] at bn;exact wL Y bn rfl<|wo Y oA<|wj (next h1 h2 h3 K)
end
section
variable{X:a0a}{N to:a0g}{E:a0i}{a:a0b}
abbrev EW(E:a0i)(N to:a0g)(x:Nd):Prop:=∃m∈to,m∈N/\rD (· ∈E) x m
structure CI (E:a0i) (N to I O:a0g):Prop where
 nd:I.Nodup
 n:∀x∈I,x∈N
 o:∀x∈O,x∈I
 len:O.length<=I.length
 za:∀x∈I,EW E N to x
 t:∀m∈to,m∈N->m∈I
 cl:∀x∈I,x∈O\/∀p,(p,x)∈E->p∈I
theorem co2(hN:N.length<=1000000)(hs:l7 N)(hE:∀e∈E,e.1∈N)(Ia:E.length<=1000000):∀(k:Nat) (I O:a0g),2*(N.length - I.length)+O.length<=k->CI E N to I O->
 Rn F X 138 2 [.sl (Nd.rs N),.sl a,.sl (nx (E.map kr)),.sl (Nd.rs O),.sl (I.map cL)] (fun o=>∃I:a0g,o=[.sl (Nd.rs (N.filter fun n=>decide (n∈I))),.sl (Nd.rs N),.sl a,.sl (nx (E.map kr))]/\∀n∈N,n∈I↔EW E N to n)
 |k,I,O,hk,c=>by
  have aE:I.length<=N.length:=c.nd.length_le_of_subset fun x hx=>c.n x hx
  have mJ:=c.len;refine wr Y<|wo Y (au (yc O)) ?_;rcases List.eq_nil_or_concat O with rfl|⟨O,n,rfl⟩
  ·refine wg 1 Y<|wl Y (br7 hN I) rfl<|wt Y ⟨I,rfl,fun n _=>⟨c.za n,fun⟨m,h1,h2,h3⟩=> ?_⟩⟩;exact h3.up (P:=(· ∈I)) (fun p x e hx=>((c.cl x hx).elim (fun h=>nomatch h) id) p e) (c.t m h1 h2)
  ·rw[List.concat_eq_append] at*;rw[xa,List.length_singleton] at hk mJ;obtain⟨k,rfl⟩:∃e,k=e+1:=⟨k - 1,a0B⟩;obtain⟨v,g1,g2,g3⟩:=aX7 n (E.map kr);rw[xm] at g3;have g4:∀p,p∈v↔(p,n)∈E:=fun p=>(g2 p).trans ⟨fun h=>by obtain⟨⟨x,y⟩,h2,e⟩:=xJ.1 h;cases e;exact h2,fun h=>xJ.2 ⟨_,h,rfl⟩⟩
   have hnI:n∈I:=c.o n (List.mem_append_right _ xn);have q:=Gf N v I O;have st:=Ua (X:=X) hN hs (h:=3) (.inr Y) (L:=v) a0B (a:=a) (b:=nx (E.map kr)) (Q:=fun o=>∃I:a0g,o=[.sl (Nd.rs (N.filter fun n=>decide (n∈I))),.sl (Nd.rs N),.sl a,.sl (nx (E.map kr))]/\∀n∈N,n∈I↔EW E N to n) v [] rfl (I:=I) (O:=O) c.nd c.n a0B (by
    have fj:=q.nd c.nd;have h2:∀x∈(v.foldl (my N) (I,O)).1,x∈N:=fun x hx=>((q.m x).1 hx).elim (c.n x) (·.2)
    have aL:=fj.length_le_of_subset fun x hx=>h2 x hx
    have dK:=q.len;have HK:I.length<=(v.foldl (my N) (I,O)).1.length:=c.nd.length_le_of_subset fun x hx=>(q.m x).2 (.inl hx)
    refine co2 hN hs hE Ia k _ _ a0B ⟨fj,h2,fun x hx=> ?_,a0B,fun x hx=> ?_,fun m h1 h2=>(q.m m).2 (.inl (c.t m h1 h2)),fun x hx=> ?_⟩
    ·exact((q.o x).1 hx).elim (fun h=>(q.m x).2 (.inl (c.o x (List.mem_append_left _ h)))) (·.1)
    ·rcases(q.m x).1 hx with h|h
     ·exact c.za x h
     ·obtain⟨m,k1,k2,k3⟩:=c.za n hnI;exact⟨m,k1,k2,.head ((g4 x).1 h.1) k3⟩
    ·by_cases h:x∈I
     ·rcases c.cl x h with h4|h4
      ·rcases xF.1 h4 with h5|h5
       ·exact .inl ((q.o x).2 (.inl h5))
       ·obtain rfl:=xy.1 h5;exact .inr fun p hp=>(q.m p).2 (.inr ⟨(g4 p).2 hp,hE _ hp⟩)
      ·exact .inr fun p hp=>(q.m p).2 (.inl (h4 p hp))
     ·exact .inl ((q.o x).2 (.inr ⟨hx,h⟩)))
   have ao:(Nd.rs (O++[n]))[O.length]? =some n.r:=mu (l:=O++[n]) rfl;have hO:(O++[n]).length=O.length+1:=by rw[xa];rfl
   have fW:aF .Dx [.sl (Nd.rs (O++[n])),jD O.length]=some (.sl (Nd.rs O)):=by
    show(if O.length<=(Nd.rs (O++[n])).length then some (D.sl ((Nd.rs (O++[n])).take O.length)) else none)=_;rw[yc,i_ a0B,show Nd.rs (O++[n])=Nd.rs O++[n.r] from List.map_append,List.take_left' (yc O)]
   have lnO:aF .sj [.sl (Nd.rs (O++[n]))]=some (jD (O.length+1)):=au ((yc _).trans hO);rw[hO];exact wy Y bZ<|wo Y lnO<|wo Y (nF a0B)<|wy Y (nZ ((yc _).trans hO))<|o_ Y (Fk ao Y) rfl<|wo Y lnO<|wo Y (nF a0B)<|wo Y fW<|wo Y g1<|wo Y (au (yc v))<|wj st
theorem OU(hN:N.length<=1000000)(hs:l7 N)(hE:∀e∈E,e.1∈N)(Ia:E.length<=1000000)(ht:to.length<=1000000):Rn F X 138 0 [.sl (Nd.rs N),.sl a,.sl (nx (E.map kr)),.sl (Nd.rs to)] (fun o=>∃I:a0g,o=[.sl (Nd.rs (N.filter fun n=>decide (n∈I))),.sl (Nd.rs N),.sl a,.sl (nx (E.map kr))]/\∀n∈N,n∈I↔EW E N to n):=by
 have q:=Gf N to [] [];have h2:∀x∈(to.foldl (my N) ([],[])).1,x∈to/\x∈N:=fun x hx=>((q.m x).1 hx).elim (fun h=>nomatch h) id
 refine wr Y<|wg 1 Y<|wo Y (au (yc to))<|b_ Y ?_;refine Ua hN hs (.inl Y) ht to [] rfl (I:=[]) (O:=[]) .nil (fun x h=>nomatch h) (xk _) ?_;refine co2 hN hs hE Ia _ _ _ (xk _) ⟨q.nd .nil,fun x hx=>(h2 x hx).2,fun x hx=>((q.o x).1 hx).elim (fun h=>nomatch h) (·.1),?_,fun x hx=>⟨x,(h2 x hx).1,(h2 x hx).2,.rfl x⟩,fun m h1 h2=>(q.m m).2 (.inr ⟨h1,h2⟩),fun x hx=> .inl ((q.o x).2 (.inr ⟨hx,fun h=>nomatch h⟩))⟩;have:=q.len;simp at this;omega
end
theorem YT{l:a0g}(h:l7 l):l.Nodup:=h.imp fun h e=>by subst e;rw[show aA _ _=false from qp.irrefl _] at h;cases h
section
variable{X:a0a}{N to:a0g}{E:a0i}
abbrev Im(E:a0i)(N fr:a0g)(x:Nd):Prop:=∃n∈fr,n∈N/\rD (· ∈E) n x
structure RI (E:a0i) (N fr out:a0g):Prop where
 Ik:l7 out
 za:∀x∈out,Im E N fr x
 t:∀n∈fr,n∈N->n∈out
def RQ(E:a0i)(N fr:a0g)(o:a0d):Prop:=∃R,o=[.sl (bw R)]/\R.length<=1000000/\∀x,x∈R↔Im E N fr x
variable{fr:a0g}
theorem Im.n(hE:∀e∈E,e.2∈N){x:Nd}(h:Im E N fr x):x∈N:=by
 obtain⟨n,_,h2,h3⟩:=h;exact h3.down (P:=(· ∈N)) (fun a b e _=>hE _ e) h2
theorem RI.len(hE:∀e∈E,e.2∈N){out:a0g}(h:RI E N fr out):out.length<=N.length:=(YT h.Ik).length_le_of_subset fun x hx=>(h.za x hx).n hE
theorem RI.add{out:a0g}(h:RI E N fr out){a b:Nd}(he:(a,b)∈E)(h1:a∈out):RI E N fr (n9 out b):=by
 refine⟨Of h.Ik,fun x hx=> ?_,fun n h1 h2=>IU.2 (.inl (h.t n h1 h2))⟩;rcases IU.1 hx with hx|rfl
 ·exact h.za x hx
 ·obtain⟨n,k1,k2,k3⟩:=h.za _ h1;exact⟨n,k1,k2,k3.snoc he⟩
theorem Vs{out:a0g}{b:Nd}(h:b∉out):(n9 out b).length=out.length+1:=by
 unfold n9;rw[j_ h,N1]
theorem re3(hN:N.length<=1000000)(hl:E.length<=1000000)(hE:∀e∈E,e.2∈N){k:Nat}(IH:∀out,RI E N fr out->N.length - out.length<k->Rn F X 152 2 [.sl (gL E),.sl (bw out)] (RQ E N fr)):∀(aa V:a0i),E=V++aa->∀{out:a0g} {h:Nat},RI E N fr out->h=3/\N.length - out.length<=k/\(∀e∈V,e.1∈out->e.2∈out)\/h=4/\N.length - out.length<k->
 Rn F X 152 h [.sl (gL E),.sl (bw out),jD E.length,jD V.length] (RQ E N fr)
 |[],V,hp,out,h,hr,hh=>by
  have aL:=iH hp;have mJ:=hr.len hE;rw[xj] at hp;subst hp;rcases hh with⟨rfl,_,hc⟩|⟨rfl,hk⟩
  ·refine wr Y<|wn Y af<|b_ Y<|wr Y<|wt Y ⟨out,rfl,a0B,fun x=>⟨hr.za x,fun⟨n,h1,h2,h3⟩=> ?_⟩⟩;exact h3.down (P:=(· ∈out)) (fun a b e ha=>hc _ e ha) (hr.t n h1 h2)
  ·exact wr Y<|wn Y af<|wj (IH out hr hk)
 |e::aa,V,hp,out,h,hr,hh=>by
  have aL:=gP hp;have next:=fun{o:a0g} {h:Nat}=>re3 hN hl hE IH aa (V++[e]) (gi hp) (out:=o) (h:=h)
  rw[xa] at next;have mJ:=hr.len hE;have ao:(gL E)[V.length]? =some (Q8 e):=mu hp;obtain⟨u,v⟩:=e;have he:(u,v)∈E:=by rw[hp];exact List.mem_append_right _ xn
  have st:=fun(g:u∈out->v∈out)=>next hr (hh.imp (fun⟨a,b,c⟩=>⟨a,b,fun d hd=>(xF.1 hd).elim (c d) fun k=>xy.1 k▸g⟩) id)
  have hk:N.length - out.length<=k:=hh.elim (·.2.1) fun h=>Nat.le_of_lt h.2
  replace hh:h=3\/h=4:=hh.imp (·.1) (·.1);rcases hh with rfl|rfl
  all_goals
   refine Rn.of (fd:=yy) rfl rfl rfl rfl (Wp.dt (ds:=[jD V.length,jD E.length]) rfl af a0B (e_ Y (ax ao Y) rfl (o_ (l:=Q8 (u,v)) rfl rfl rfl (Wp.note ?_))));dsimp only [c_,n_];refine Wp.tf Y (vl a0B u) (fun h1=>Wp.note (Wp.tf Y (vl a0B v) (fun h2=> ?_) (fun h2=>Wp.note ?_))) (fun h1=> ?_)
   ·exact wo Y oA<|b_ Y (st fun _=>h2)
   ·have bE:=hr.add he h1;have:=bE.len hE;have e3:=Vs h2;exact wL Y (rW a0B v) rfl<|wo Y oA<|b_ Y (next bE (.inr ⟨rfl,a0B⟩))
   ·exact wo Y oA<|wj (st fun h=>absurd h h1)
theorem re2(hN:N.length<=1000000)(hl:E.length<=1000000)(hE:∀e∈E,e.2∈N):∀(k:Nat) (out:a0g),RI E N fr out->N.length - out.length<=k->Rn F X 152 2 [.sl (gL E),.sl (bw out)] (RQ E N fr)
 |k,out,hr,hk=>by
  refine wr Y<|wo Y (au (xm _))<|b_ Y ?_;refine re3 hN hl hE (k:=N.length - out.length) (fun o h1 h2=> ?_) E [] rfl hr (.inl ⟨rfl,xk _,fun e h=>nomatch h⟩)
  match k,hk with
  |0,hk=>omega
  |k+1,hk=>exact re2 hN hl hE k o h1 a0B
theorem re1(hN:N.length<=1000000)(hl:E.length<=1000000)(hE:∀e∈E,e.2∈N)(hf:fr.length<=1000000):∀(aa V:a0g),fr=V++aa->∀{out:a0g},l7 out->(∀x,x∈out↔x∈V/\x∈N)->
 Rn F X 152 1 [.sl (bw N),.sl (gL E),.sl (bw out),.sl (bw fr),jD fr.length,jD V.length] (RQ E N fr)
 |[],V,hp,out,ha,hm=>by
  have aL:=iH hp;rw[xj] at hp;subst hp;exact wr Y<|wn Y af<|b_ Y (re2 hN hl hE _ _ ⟨ha,fun x hx=>⟨x,((hm x).1 hx).1,((hm x).1 hx).2,.rfl x⟩,fun n h1 h2=>(hm n).2 ⟨h1,h2⟩⟩ (xk _))
 |n::aa,V,hp,out,ha,hm=>by
  have aL:=gP hp;have next:=fun{o:a0g}=>re1 hN hl hE hf aa (V++[n]) (gi hp) (out:=o)
  rw[xa] at next;have mJ:out.length<=N.length:=(YT ha).length_le_of_subset fun x hx=>((hm x).1 hx).2
  refine wr Y<|wy Y af<|wo Y (ax (rp hp) rfl)<|wg 2 Y ?_;dsimp only [c_,n_];refine Wp.tf Y (vl a0B n) (fun h1=>Wp.note ?_) (fun h1=> ?_)
  ·exact wL Y (rW a0B n) rfl<|wo Y oA<|b_ Y (next (Of ha) fun x=>by rw[IU,hm,xF,xy];grind)
  ·exact wo Y oA<|b_ Y (next ha fun x=>by rw[hm,xF,xy];grind)
theorem as1(hN:N.length<=1000000)(hl:E.length<=1000000)(hE:∀e∈E,e.2∈N)(hf:fr.length<=1000000):Rn F X 152 0 [.sl (bw N),.sl (gL E),.sl (bw fr)] (RQ E N fr):=by
 exact wr Y<|wo Y (au (kV fr))<|wj (re1 hN hl hE hf fr [] rfl .nil fun x=>⟨fun h=>(nomatch h),fun h=>nomatch h.1⟩)
abbrev wT(l:a0g):Prop:=∀n∈l,0<=n.k/\n.k<=255
def ToQ(o:a0d):Prop:=∃to,o=[.sl (bw to)]/\to.length<=4/\wT to
theorem Xb{c a b:Nat}(h:1<=b)(h2:a<=255):aF (.bin .quo c) [bD a,bD b]=some (bD (a/b)):=by
 show ofInt (bs (mC (b:Int) 0) none (some (.int .u8 (fR .u8 (Int.tdiv a b)))))=_;rw[oU,f_ a0B];show some (D.int .u8 (fR .u8 (Int.tdiv a b)))=_;have:a/b<=a:=Nat.div_le_self a b;have h3:Int.tdiv (a:Int) (b:Int)=((a/b:Nat):Int):=rfl;rw[h3,lA,IntWalk.u8_in _ ⟨Int.natCast_nonneg _,a0B⟩]
theorem aG0{l:a0g}(h:wT l){n:Nd}(hn:0<=n.k/\n.k<=255):wT (l++[n]):=fun m hm=>(xF.1 hm).elim (h m) fun e=>xy.1 e▸hn
theorem so1(hN:N.length<=1000000)(h1:1<=N.length)(hk:wT N)(l:a0j):∀(k i:Nat),i+k=4->∀{out:a0g},out.length<=i->wT out->Rn F X 159 1 [.sl (bw N),.sl (bw out),.sl (bG l),jD l.length,jD i] ToQ
 |k,i,hi,out,ho,ko=>by
  refine wr Y<|d_ (ds:=[jD i,jD l.length]) rfl af (fun bm=> ?_) (fun _=>wt Y ⟨out,rfl,a0B,ko⟩);have bm:i<l.length:=a0B
  have ao:(bG l)[i]? =some [bD l[i].toNat]:=by
   show(l.map _)[i]? =_;rw[xx,xc bm];rfl
  have hb:l[i].toNat<256:=l[i].toNat_lt;generalize l[i].toNat=b at ao hb;refine wo Y (ax ao Y)<|wg 1 Y<|d_ (ds:=[jD i,jD 4]) rfl ay (fun _=>wt Y ⟨out,rfl,a0B,ko⟩) (fun h4=> ?_);obtain⟨k,rfl⟩:∃e,k=e+1:=⟨k - 1,a0B⟩;have next:=fun{n:Nd} (hn:0<=n.k/\n.k<=255)=>so1 hN h1 hk l k (i+1) a0B (out:=out++[n]) (by rw[xa];show _+1<=_;omega) (aG0 ko hn)
  refine wo Y oC<|wo Y (au (kV N))<|wo Y (rT (a:=8) (b:=N.length) a0B)<|d_ (ds:=[jD b,jD (8*N.length)]) rfl af (fun _=> ?_) (fun _=> ?_)
  ·have hm:b%N.length<N.length:=Nat.mod_lt _ h1;have gR:(bw N)[b%N.length]? =some N[b%N.length].q:=by
    show(N.map _)[b%N.length]? =_;rw[xx,xc hm];rfl
   have hn:=hk _ (List.getElem_mem hm);generalize N[b%N.length]=n at gR hn;refine wo Y oC<|wo Y (au (kV N))<|wo Y (ka (a:=b) _ h1)<|wo Y (ax gR rfl)<|wg 2 Y ?_;dsimp only [c_,n_];exact wg 1 Y<|wo Y (ya a0B n)<|wo Y oA<|wj (next hn)
  ·refine wo Y (ka (a:=b) (b:=8) _ a0H)<|wo Y oC<|wo Y (Xb (a:=b) (b:=8) a0H a0B)<|wo Y (ka (a:=b/8) (b:=4) _ a0H) ?_;have x1:b%8<=255:=a0B
   have x2:b/8%4<=255:=a0B
   have x3:b/32<=255:=a0B
   have q3:=Xb (c:=0) (a:=b) (b:=32) a0H a0B;generalize b%8=x at x1⊢;generalize b/8%4=y at x2⊢;generalize b/32=z at x3 q3;refine wo Y oC<|wo Y q3<|wo Y oC<|wg 1 Y ?_;dsimp only [c_,n_];refine wg 1 Y<|wo Y (ya a0B ⟨(x:Nat),(y:Nat),(z:Nat)⟩)<|wo Y oA<|b_ Y (next ?_);exact⟨Int.natCast_nonneg _,by show(x:Int)<=255;omega⟩
theorem aL9(hN:N.length<=1000000)(h1:1<=N.length)(hk:wT N)(l:a0j):Rn F X 159 0 [.sl (bw N),.sl (bG l)] ToQ:=by
 exact wr Y<|wo Y (au (xm _))<|b_ Y (so1 hN h1 hk l 4 0 rfl (out:=[]) (xk _) fun n h=>nomatch h)
end
section
variable{X:a0a}{N to:a0g}{E Es:a0i}{a:a0b}{Q:a0d->Prop}
theorem JJ(l m:a0g)(h:l.length+m.length<=2000000):aF (.app 3 24) [.sl (bw l),.sl (bw m)]=some (.sl (bw (l++m))):=by
 have e1:=kV l;have e2:=kV m;rw[yg (fun row hr=>by obtain⟨c,_,rfl⟩:=xJ.1 hr;exact⟨rfl,rfl⟩) a0B a0B];unfold bw;rw[List.map_append]
theorem Ym{l V aa:a0g}{n:Nd}(h:l=V++n::aa):aF (.pD 0 3 true) [.sl (bw l),jD V.length]=some (.agg n.q):=Fk (rp h) rfl
structure LH (N:a0g) (E Es:a0i) (to:a0g):Prop where
 n:N.length<=1000000
 Ik:l7 N
 k:∀n∈N,1<=n.k/\n.k<=6
 e:E.length<=1000000
 es:Es.length<=1000000
 eq:∀e,e∈E↔e∈Es
 e1:∀e∈Es,e.1∈N
 e2:∀e∈Es,e.2∈N
 tl:to.length<=4
 tk:wT to
theorem la3(h:LH N E Es to){cone:a0g}{I:a0g}(hI:∀n∈N,n∈I↔EW E N to n)(hc:cone=N.filter fun n=>decide (n∈I)):∀(aa V:a0g),to=V++aa->
 Rn F X 162 3 [.sl (bw cone),.sl (Nd.rs V),.sl (bw to),jD to.length,jD V.length,.sl (Nd.rs N),.sl a,.sl (nx (E.map kr))] (·=[.bool true])
 |[],V,hp=>by
  have aL:=iH hp;have hn:=h.n;rw[xj] at hp;subst hp;have ux:=h.tl;obtain⟨_,hq,J,rfl,hJ⟩:=OU (X:=X) (N:=N) (to:=to) (E:=E) (a:=a) a0B h.Ik (fun e he=>h.e1 e ((h.eq e).1 he)) h.e a0B;have cn:Rn F X 138 0 [.sl (Nd.rs N),.sl a,.sl (nx (E.map kr)),.sl (Nd.rs to)] (·=[.sl (Nd.rs (N.filter fun n=>decide (n∈J))),.sl (Nd.rs N),.sl a,.sl (nx (E.map kr))]):=⟨_,hq,rfl⟩;have e:(N.filter fun n=>decide (n∈J))=cone:=by
   rw[hc];exact List.filter_congr fun n hn=>decide_eq_decide.2 ((hJ n hn).trans (hI n hn).symm)
  rw[e] at cn;have sZ:∀n∈cone,n∈N:=fun n hn=>by rw[hc] at hn;exact(List.mem_filter.1 hn).1
  have sm:=aD5 (X:=X) (l:=cone) (by rw[hc];exact xH (List.length_filter_le _ _) a0B) fun n hn=>by have:=h.k n (sZ n hn);omega
  exact wr Y<|wn Y af<|wl Y cn rfl<|wl Y sm rfl<|wt Y Y
 |m::aa,V,hp=>by
  have aL:=gP hp;have ux:=h.tl;have ih:=la3 h hI hc aa (V++[m]) (gi hp);rw[xa] at ih;have hm:=h.tk m (by rw[hp];exact List.mem_append_right _ xn);refine wr Y<|wy Y af<|wo Y (ax (rp hp) rfl)<|wg 1 Y ?_;dsimp only [c_,n_];exact wo Y (JI hm.1 hm.2)<|wg 2 Y<|wo Y (JB a0B m)<|wo Y oA<|wj ih
abbrev E1(N to:a0g)(E Es:a0i)(a:a0b)(cone L:a0g)(i:Nat):a0d:=[.sl (bw N),.sl (gL Es),.sl (bw to),.sl (bw cone),.sl (bw L),jD L.length,jD i,.sl (Nd.rs N),.sl a,.sl (nx (E.map kr))]
abbrev E4(N to:a0g)(E Es:a0i)(a:a0b)(cone R L:a0g)(i j:Nat)(n:Nd):a0d:=[.sl (bw N),.sl (gL Es),.sl (bw to),.sl (bw cone),.sl (bw R),.sl (bw L),jD L.length,jD i,jD to.length,jD j,.sl (Nd.rs N),.int .i64 n.k,.int .i64 n.a,.int .i64 n.b,.sl a,.sl (nx (E.map kr))]
theorem la5(h:LH N E Es to){cone R L:a0g}{i:Nat}{n:Nd}(hi:i<=2000000)(hc:cone.length<=2000000)(K:Rn F X 162 1 (E1 N to E Es a (cone++[n]) L (i+1)) Q):∀(aa V:a0g),to=V++aa->
 Rn F X 162 5 (E4 N to E Es a cone R L i V.length n) Q
 |[],V,hp=>by
  have aL:=iH hp;exact wr Y<|wn Y af<|wg 2 Y<|wo Y (ya a0B n)<|wo Y oA<|wj K
 |m::aa,V,hp=>by
  have aL:=gP hp;have ux:=h.tl;have ih:=la5 h (R:=R) hi hc K aa (V++[m]) (gi hp);rw[xa] at ih;exact wr Y<|wy Y af<|wo Y (ax (rp hp) rfl)<|wg 1 Y<|wo Y oA<|wj ih
theorem la4(h:LH N E Es to){cone R L:a0g}(hR:R.length<=1000000){i:Nat}{n:Nd}(hi:i<=2000000)(hc:cone.length<=2000000)(K1:(∃m∈to,m∈R)->Rn F X 162 1 (E1 N to E Es a (cone++[n]) L (i+1)) Q)(K2:(∀m∈to,m∉R)->Rn F X 162 1 (E1 N to E Es a cone L (i+1)) Q):∀(aa V:a0g),to=V++aa->(∀m∈V,m∉R)->
 Rn F X 162 4 (E4 N to E Es a cone R L i V.length n) Q
 |[],V,hp,hr=>by
  have aL:=iH hp;exact wr Y<|wn Y af<|wo Y oA<|b_ Y (K2 (by rw[hp,xj];exact hr))
 |m::aa,V,hp,hr=>by
  have aL:=gP hp;have ux:=h.tl;have hm:m∈to:=by rw[hp];exact List.mem_append_right _ xn
  refine wr Y<|wy Y af<|wo Y (ax (rp hp) rfl)<|wg 2 Y ?_;dsimp only [c_,n_];refine Wp.tf Y (vl a0B m) (fun h1=> ?_) (fun h1=> ?_)
  ·have:=la5 (X:=X) h (R:=R) (a:=a) hi hc (K1 ⟨m,hm,h1⟩) aa (V++[m]) (gi hp);rw[xa] at this;exact wo Y oA<|wj this
  ·have:=la4 h hR hi hc K1 K2 aa (V++[m]) (gi hp) fun x hx=>(xF.1 hx).elim (hr x) fun e=>xy.1 e▸h1
   rw[xa] at this;exact wo Y oA<|wj this
abbrev E2(N to:a0g)(E Es:a0i)(a:a0b)(cone R L M:a0g)(i j:Nat)(n:Nd):a0d:=[.sl (bw N),.sl (gL Es),.sl (bw to),.sl (bw cone),.sl (bw R),.sl (bw L),jD L.length,jD i,.sl (bw M),jD M.length,jD j,.sl (Nd.rs N),.int .i64 n.k,.int .i64 n.a,.int .i64 n.b,.sl a,.sl (nx (E.map kr))]
theorem la2(h:LH N E Es to){cone R L M:a0g}(hR:R.length<=1000000){i:Nat}{n:Nd}(hn:0<=n.k/\n.k<=255)(hr:∀x,x∈R↔Im Es N [n] x)(hM:M.length<=2000000)(hk:wT M)(K:Rn F X 162 4 (E4 N to E Es a cone R L i 0 n) (·=[.bool true])):∀(aa V:a0g),M=V++aa->
 Rn F X 162 2 (E2 N to E Es a cone R L M i V.length n) (·=[.bool true])
 |[],V,hp=>by
  have aL:=iH hp;exact wr Y<|wn Y af<|wo Y (au (kV to))<|wj K
 |m::aa,V,hp=>by
  have aL:=gP hp;have ih:=la2 h hR hn hr hM hk K aa (V++[m]) (gi hp);rw[xa] at ih;have hm:=hk m (by rw[hp];exact List.mem_append_right _ xn);have hN:=h.n;obtain⟨_,hq,J,rfl,hJ⟩:=OU (X:=X) (N:=N) (to:=[m]) (E:=E) (a:=a) a0B h.Ik (fun e he=>h.e1 e ((h.eq e).1 he)) h.e (Nat.le_add_left 1 999999);have cn:Rn F X 138 0 [.sl (Nd.rs N),.sl a,.sl (nx (E.map kr)),.sl [m.r]] (·=[.sl (Nd.rs (N.filter fun n=>decide (n∈J))),.sl (Nd.rs N),.sl a,.sl (nx (E.map kr))]):=⟨_,hq,rfl⟩;have hJl:=List.length_filter_le (fun n=>decide (n∈J)) N;obtain⟨_,qF,k,rfl,fO⟩:=bl7 (X:=X) (l:=N.filter fun n=>decide (n∈J)) a0B n;have ix:Rn F X 134 0 (.sl (Nd.rs (N.filter fun n=>decide (n∈J)))::n.r) (·=[.int .i64 k]):=⟨_,qF,rfl⟩;have ee:(· ∈E)=(· ∈Es):=funext fun e=>propext (h.eq e)
  have key:0<=k↔m∈R:=by
   rw[fO,hr,List.mem_filter];constructor
   ·rintro⟨h1,h2⟩;obtain⟨x,h3,h4,h5⟩:=(hJ n h1).1 (of_decide_eq_true h2);obtain rfl:=xy.1 h3;exact⟨n,xn,h1,by rw[<-ee];exact h5⟩
   ·rintro⟨x,h3,h4,h5⟩;obtain rfl:=xy.1 h3;exact⟨h4,u_ ((hJ _ h4).2 ⟨m,xn,h5.down (P:=(· ∈N)) (fun a b e _=>h.e2 _ e) h4,by rw[ee];exact h5⟩)⟩
  refine wr Y<|wy Y af<|wy Y (nZ (kV M))<|o_ Y (Ym hp) rfl ?_;dsimp only [c_,n_];refine wo Y (JI hn.1 hn.2)<|wo Y (JI hm.1 hm.2)<|wg 2 Y<|wL Y cn rfl<|wl Y ix rfl ?_;dsimp only [c_,n_];refine d_ (ds:=[.int .i64 k,jD 0]) rfl eP (fun h1=>Wp.note ?_) (fun h1=>Wp.note ?_)
  ·refine Wp.tf Y (vl a0B m) (fun h2=> ?_) (fun h2=>absurd (key.1 h1) h2);exact wo Y oA<|wj ih
  ·refine Wp.tf Y (vl a0B m) (fun h2=>absurd (key.2 h2) h1) (fun h2=> ?_);exact wo Y oA<|wj ih
theorem la1(h:LH N E Es to){I:a0g}(hI:∀n∈N,n∈I↔EW E N to n){L:a0g}(hL:L.length<=2000000)(hk:wT L)(hf:L.filter (fun n=>decide (n∈N/\n∈I))=N.filter fun n=>decide (n∈I)):∀(aa V:a0g),L=V++aa->
 Rn F X 162 1 (E1 N to E Es a (V.filter fun n=>decide (n∈N/\n∈I)) L V.length) (·=[.bool true])
 |[],V,hp=>by
  have aL:=iH hp;rw[xj] at hp;subst hp;have ld:=la3 (X:=X) h hI (a:=a) rfl to [] rfl;rw[hf];exact wr Y<|wn Y af<|wo Y (au (kV to))<|wj ld
 |n::aa,V,hp=>by
  have aL:=gP hp;have ih:=la1 h hI hL hk hf aa (V++[n]) (gi hp);rw[xa,List.filter_append] at ih;have hn:=hk n (by rw[hp];exact List.mem_append_right _ xn);have hN:=h.n;have ux:=h.tl;have hc:(V.filter fun n=>decide (n∈N/\n∈I)).length<=2000000:=xH (List.length_filter_le _ _) a0B;obtain⟨_,hq,R,rfl,hR,hr⟩:=as1 (X:=X) (N:=N) (E:=Es) (fr:=[n]) a0B h.es h.e2 (Nat.le_add_left 1 999999);have rd:Rn F X 152 0 [.sl (bw N),.sl (gL Es),.sl [n.q]] (·=[.sl (bw R)]):=⟨_,hq,rfl⟩;have ee:(· ∈E)=(· ∈Es):=funext fun e=>propext (h.eq e)
  have key:(∃m∈to,m∈R)↔n∈N/\n∈I:=by
   constructor
   ·rintro⟨m,h1,h2⟩;obtain⟨x,h3,h4,h5⟩:=(hr m).1 h2;obtain rfl:=xy.1 h3;exact⟨h4,(hI _ h4).2 ⟨m,h1,h5.down (P:=(· ∈N)) (fun a b e _=>h.e2 _ e) h4,by rw[ee];exact h5⟩⟩
   ·rintro⟨h1,h2⟩;obtain⟨m,h3,h4,h5⟩:=(hI n h1).1 h2;exact⟨m,h3,(hr m).2 ⟨n,xn,h1,by rw[<-ee];exact h5⟩⟩
  have l4:=la4 (X:=X) h hR (cone:=V.filter fun n=>decide (n∈N/\n∈I)) (L:=L) (a:=a) (i:=V.length) (n:=n) a0B hc (Q:=(·=[.bool true]))
   (fun h1=>by rw[show[n].filter (fun n=>decide (n∈N/\n∈I))=[n] from by simp[key.1 h1]] at ih;exact ih)
   (fun h1=>by rw[show[n].filter (fun n=>decide (n∈N/\n∈I))=[] from List.filter_eq_nil_iff.2 fun x hx k=>by
    rw[xy.1 hx] at k;obtain⟨m,h2,h3⟩:=key.2 (of_decide_eq_true k);exact h1 m h2 h3,xj] at ih;exact ih) to [] rfl fun x hx=>nomatch hx
  have l2:=la2 (X:=X) h hR hn hr (M:=N++to) (by rw[xa];omega) (fun m hm=>(xF.1 hm).elim (fun k=>by have:=h.k m k;omega) (h.tk m)) l4 (N++to) [] rfl;have a1:aF (.app 3 24) [.sl [],.sl (bw N)]=some (.sl (bw N)):=JJ [] N (by show 0+_<=_;omega);have a2:=JJ N to a0B;exact wr Y<|wy Y af<|wy Y (nZ (kV L))<|o_ Y (Ym hp) rfl<|wg 2 Y<|wL Y rd rfl<|wg 1 Y<|wo Y a1<|wg 1 Y<|wo Y a2<|wo Y (au (kV _))<|wj l2
theorem am8(p:ui)(l:a0j):Rn F X 162 0 (p.d++[.sl (bG l)]) (·=[.bool true]):=by
 have aw:=aJ7 (X:=X);obtain⟨o,hq,f,ar,src,rows,ids,rfl,hf,hp,dP⟩:=aP6 (X:=X) p;have mk:Rn F X 108 0 p.d (·=ny f src ids rows::f.r):=⟨_,hq,rfl⟩;have hx:tu ar (⟨f,src,ids,rows,0,⟨[],[],[]⟩⟩:Cx):=⟨hf,hp,dP.len⟩;obtain⟨o2,qF,ns,E,rfl,h1,h2,h3,h4,h5,h6⟩:=bd8 (X:=X) hx;have dof:Rn F X 129 0 [ny f src ids rows] (·=[.sl (Nd.rs (gW ns)),.sl (nx E),.sl (nx (E.map kr))]):=⟨_,qF,rfl⟩;have e:=aE8 hx h1 h5;have rg:=aw8 (X:=X) hx;rw[<-e] at rg;have af8:=XW h1;generalize hNN:gW ns=N at*;have Rl:∀n,n∈N↔n∈fN ar ⟨f,src,ids,rows,0,⟨[],[],[]⟩⟩\/∃e∈fE ar ⟨f,src,ids,rows,0,⟨[],[],[]⟩⟩,n=e.1\/n=e.2:=fun n=>by rw[<-hNN,(oN ns).mem_iff,h5]
 have hE:∀e∈ES ar ⟨f,src,ids,rows,0,⟨[],[],[]⟩⟩,e.1∈N/\e.2∈N:=fun e he=>⟨(Rl _).2 (.inr ⟨e,(Pq hx).1 he,.inl Y⟩),(Rl _).2 (.inr ⟨e,(Pq hx).1 he,.inr Y⟩)⟩
 have Ml:∀n∈N,1<=n.k/\n.k<=6:=fun n hn=>Zl (Cf.1 (e▸hn))
 have hNl:N.length<=1000000:=by rw[<-hNN,(oN ns).length_eq];exact h3
 have H7:1<=N.length:=by
  have hn:=hf.n;obtain⟨c,hc⟩:∃c,f.comps[0]? =some c:=⟨f.comps[0]' a0B,xc _⟩;obtain⟨_,ints,tables,al,k1,k2,k3,k4,k5,_⟩:=hf.comps 0 c hc;have:(⟨1,0,0⟩:Nd)∈N:=(Rl _).2 (.inl (List.mem_append_right _ (List.mem_flatMap.2 ⟨(c,0),List.mem_zipIdx_iff_getElem?.2 hc,List.mem_append_left _ (xJ.2 ⟨0,List.mem_range.2 (by rw[show(eo (⟨f,src,ids,rows,0,⟨[],[],[]⟩⟩:Cx) (c,0)).cm=c from Y,k5];simp;omega),rfl⟩)⟩)));exact List.length_pos_of_mem this
 have Ia:(ES ar ⟨f,src,ids,rows,0,⟨[],[],[]⟩⟩).length<=1000000:=by
  have hn:=hf.n;have:=pw (f:=fun p=>rE ar (eo (⟨f,src,ids,rows,0,⟨[],[],[]⟩⟩:Cx) p)) (l:=f.comps.zipIdx) (m:=172840) fun p hp=>by have:=Y5 (hx.at hp);omega
  rw[List.length_zipIdx] at this;exact xH this (by have:=xD 172840 (show f.comps.length<=3 by omega);omega)
 obtain⟨_,hq3,to,rfl,tl,tk⟩:=aL9 (X:=X) (N:=N) a0B H7 (fun n hn=>by have:=Ml n hn;omega) l;have so:Rn F X 159 0 [.sl (bw N),.sl (bG l)] (·=[.sl (bw to)]):=⟨_,hq3,rfl⟩;have H:LH N E (ES ar ⟨f,src,ids,rows,0,⟨[],[],[]⟩⟩) to:=⟨hNl,af8,Ml,h4,Ia,fun e=>(h6 e).trans (Pq hx).symm,fun e he=>(hE e he).1,fun e he=>(hE e he).2,tl,tk⟩;obtain⟨_,_,I,rfl,hI⟩:=OU (X:=X) (N:=N) (to:=to) (E:=E) (a:=[]) a0B af8 (fun e he=>(hE e ((H.eq e).1 he)).1) h4 a0B;have h9:(⟨9,0,0⟩:Nd)∉N:=fun h=>by have:=(Ml _ h).2;revert this;decide
 have lw:=la1 (X:=X) H hI (L:=N++[⟨9,0,0⟩]) (a:=nx E) (by rw[xa];show _+1<=_;omega) (fun n hn=>(xF.1 hn).elim (fun k=>by have:=Ml n k;omega) fun k=>by rw[xy.1 k];decide) (by
  rw[List.filter_append,show[(⟨9,0,0⟩:Nd)].filter (fun n=>decide (n∈N/\n∈I))=[] from by simp[h9],xj];exact List.filter_congr fun n hn=>decide_eq_decide.2 ⟨(·.2),fun k=>⟨hn,k⟩⟩) _ [] rfl
 have a1:aF (.app 3 24) [.sl [],.sl (bw N)]=some (.sl (bw N)):=JJ [] N (by show 0+_<=_;omega);have a2:=JJ N [⟨9,0,0⟩] (by show _+1<=_;omega);have z:(bw (N++[(⟨9,0,0⟩:Nd)])).length=(N++[(⟨9,0,0⟩:Nd)]).length:=kV _;refine wr Y<|Wp.ig (f:=8) rfl aw rfl<|wl Y mk rfl ?_;dsimp only [ui.d,dj.r,c_,n_];exact wg 1 Y<|wl Y dof rfl<|wl Y rg rfl<|wo Y (au (kV N))<|wn Y ay<|wl Y so rfl<|wg 1 Y<|wo Y a1<|wg 2 Y<|wo Y a2<|wo Y (au z)<|wj lw
