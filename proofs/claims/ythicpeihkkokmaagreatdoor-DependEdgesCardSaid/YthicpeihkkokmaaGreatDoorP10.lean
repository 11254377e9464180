/- What these functions answer. -/
import Derived.Test.YthicpeihkkokmaaGreatDoorP9
import Derived.Test.YthicpeihkkokmaaGreatDoorP8
import Derived.Test.YthicpeihkkokmaaGreatDoorX11
import Derived.KernelRfl
set_option linter.unusedVariables false
set_option linter.unusedSimpArgs false
namespace Go.Proofs.YthicpeihkkokmaaGreatDoor
open Go.Ex Go.RowKit Go.Sort Go.Fl
section
variable{ar:a0f}{x:Cx}
theorem zP{ns:a0i}{m:Nd}:m∈bw [] ns↔m∈ns:=((Ca ns [] .nil).2.1 m).trans a0C
theorem ML(hx:eu ar x){s t:aq}(h: .wr t∈pw x.cm.aS s):∃v,cq x.vn t=some v:=by
 obtain⟨k,hd,es,th,el,hr,hk⟩:=Fz hx h;exact hr.1 hk
theorem V4{t:aq}{v:Nat}(h:cq x.vn t=some v):rN x t=[wN x t]:=by
 unfold rN wN;rw[h];rfl
theorem Uq(hx:eu ar x){s:aq}{k:Nat}{e:Nd×Nd}:e∈gE ar x (s,k)↔∃a∈pw x.cm.aS s,e∈p7 ar x ⟨5,(x.i:Nat),(k:Nat)⟩ a:=by
 have q:=Di x s;unfold gE;rw[xF,xF,xF,xF,xJ,xJ,List.mem_flatMap,List.mem_flatMap];constructor
 ·rintro(⟨m,hm,rfl⟩|⟨m,hm,rfl⟩|h|⟨t,ht,h⟩|⟨t,ht,h⟩)
  ·obtain⟨t,ht,hm⟩:=List.mem_flatMap.1 (zP.1 hm);exact⟨.rd t,((q.R t).1 ht).elim (fun h=>nomatch h) id,xJ.2 ⟨m,hm,rfl⟩⟩
  ·obtain⟨hm,_⟩:=List.mem_filter.1 hm;obtain⟨t,ht,hm⟩:=List.mem_flatMap.1 (zP.1 hm);have ht:=((q.W t).1 ht).elim (fun h=>nomatch h) id;obtain⟨v,hv⟩:=ML hx ht;rw[V4 hv,xy] at hm;exact⟨.wr t,ht,by rw[hm];exact xy.2 rfl⟩
  ·unfold dE at h;split at h
   ·rename_i hd;exact⟨.dk,(q.D.1 hd).elim (fun h=>nomatch h) id,h⟩
   ·cases h
  ·exact⟨.sn t,((q.S t).1 ht).elim (fun h=>nomatch h) id,h⟩
  ·exact⟨.tm t,((q.T t).1 ht).elim (fun h=>nomatch h) id,h⟩
 ·rintro⟨a,ha,h⟩;cases a with
  |rd t=>
   obtain⟨m,hm,rfl⟩:=xJ.1 h;exact .inl ⟨m,zP.2 (List.mem_flatMap.2 ⟨t,(q.R t).2 (.inr ha),hm⟩),rfl⟩
  |wr t=>
   obtain⟨v,hv⟩:=ML hx ha;obtain rfl:=xy.1 h;exact .inr (.inl ⟨_,List.mem_filter.2 ⟨zP.2 (List.mem_flatMap.2 ⟨t,(q.W t).2 (.inr ha),by rw[V4 hv];exact xy.2 rfl⟩),rfl⟩,rfl⟩)
  |dk=>exact .inr (.inr (.inl (by unfold dE;rw[i_ (q.D.2 (.inr ha))];exact h)))
  |sn t=>exact .inr (.inr (.inr (.inl ⟨t,(q.S t).2 (.inr ha),h⟩)))
  |tm t=>exact .inr (.inr (.inr (.inr ⟨t,(q.T t).2 (.inr ha),h⟩)))
theorem Ns(hx:eu ar x){v:List Hn}(hv:v∈x.cm.aS){h:Hn}(hh:h∈v):∃k,(gK ar x.i)[k]? =some h.name/\hN ar x.i h.name=⟨5,(x.i:Nat),(k:Nat)⟩:=by
 obtain⟨k,al,aR,hk,e⟩:=(CR hx hv hh).nm;refine⟨k,?_,by rw[e];exact Df hx aR hk⟩;rw[Ab aR,e,aP,xx,List.getElem?_range hk];rfl
theorem Wy(hx:eu ar x){k:Nat}{s:aq}(h:(gK ar x.i)[k]? =some s):hN ar x.i s=⟨5,(x.i:Nat),(k:Nat)⟩/\∃v∈x.cm.aS,∃h∈v,h.name=s:=by
 obtain⟨_,ints,tables,al,h1,h2,h3,h4,h5,h6,h7,⟨v0,ov,e0⟩,h9⟩:=hx.f.comps _ _ hx.c;rw[Ab h4] at h;have hk:=iB h;rw[Fx] at hk;rw[aP,xx,List.getElem?_range hk] at h;obtain rfl:nm 104 k=s:=xC h;have lq:k<v0.length:=a0B
 exact⟨Df hx h4 hk,v0,ov,v0[k],List.getElem_mem lq,((h9 v0 ov).2.2 k _ (xc lq)).name⟩
theorem MK{x:Cx}{e:Nd×Nd}:e∈cE ar x↔∃v∈x.cm.aS,∃h∈v,∃a∈St.cg h.body,e∈p7 ar x (hN ar x.i h.name) a:=by
 unfold cE hE;simp only [List.mem_flatMap,List.mem_flatten];constructor
 ·rintro⟨h,⟨v,hv,hh⟩,r⟩;exact⟨v,hv,h,hh,r⟩
 ·rintro⟨v,hv,h,hh,r⟩;exact⟨h,⟨v,hv,hh⟩,r⟩
theorem aN8(hx:eu ar x){e:Nd×Nd}:e∈rE ar x↔e∈cE ar x:=by
 unfold rE;rw[List.mem_flatMap,MK];constructor
 ·rintro⟨⟨s,k⟩,hp,hq⟩;obtain⟨a,ha,he⟩:=(Uq hx).1 hq;clear hq;obtain⟨v,hv,h,hh,rfl,hb⟩:=Dw.1 ha;exact⟨v,hv,h,hh,a,hb,by rw[(Wy hx (List.mem_zipIdx_iff_getElem?.1 hp)).1];exact he⟩
 ·rintro⟨v,hv,h,hh,a,ha,he⟩;obtain⟨k,hk,e1⟩:=Ns hx hv hh;rw[e1] at he;exact⟨(h.name,k),List.mem_zipIdx_iff_getElem?.2 hk,(Uq hx).2 ⟨a,Dw.2 ⟨v,hv,h,hh,rfl,ha⟩,he⟩⟩
theorem aP0(hx:tu ar x){e:Nd×Nd}:e∈ES ar x↔e∈fE ar x:=by
 unfold ES fE;rw[List.mem_flatMap,List.mem_flatMap];exact exists_congr fun p=>and_congr_right fun hp=>aN8 (hx.at hp)
theorem Mm{t:aq}:∀{l:a0s} {v:Nat},cq l t=some v->v<l.length
 |[],_,h=>nomatch h
 |a::l,v,h=>by
  have h:(if a=t then some 0 else(cq l t).map (· +1))=some v:=h;split at h
  ·cases h;exact Nat.succ_pos _
  ·obtain⟨w,h1,rfl⟩:=xp.1 h;exact Nat.succ_lt_succ (Mm h1)
theorem Ik(hx:eu ar x){k:Nat}{s:aq}(h:(gK ar x.i)[k]? =some s){n:Nd}(hn:n∈gN x (s,k)):n∈ya ar x:=by
 unfold ya;exact List.mem_append_right _ (List.mem_flatMap.2 ⟨(s,k),List.mem_zipIdx_iff_getElem?.2 h,hn⟩)
theorem Tl{t:aq}{v:Nat}(h:cq x.vn t=some v):(⟨1,(x.i:Nat),(v:Nat)⟩:Nd)∈(List.range x.cm.vars.length).map (fun v=>(⟨1,(x.i:Nat),(v:Nat)⟩:Nd)):=by
 have:=Mm h;unfold Cx.vn at this;rw[xm] at this;exact xJ.2 ⟨v,List.mem_range.2 this,rfl⟩
theorem aO4(hx:tu ar x){n:Nd}:n∈NS ar x↔n∈fN ar x\/∃e∈fE ar x,n=e.1\/n=e.2:=by
 have inE:∀{p:Cm×Nat},p∈x.f.comps.zipIdx->∀{e:Nd×Nd},e∈cE ar (eo x p)->e∈fE ar x:=fun hp _ he=>List.mem_flatMap.2 ⟨_,hp,he⟩
 have Bv:∀{p:Cm×Nat},p∈x.f.comps.zipIdx->∀{m:Nd},m∈ya ar (eo x p)->m∈NS ar x:=fun hp _ hm=>List.mem_append_right _ (List.mem_flatMap.2 ⟨_,hp,hm⟩)
 constructor
 ·intro h;rcases xF.1 h with h|h
  ·exact .inl (List.mem_append_left _ h)
  ·obtain⟨p,hp,h⟩:=List.mem_flatMap.1 h;have hc:=hx.at hp;rcases xF.1 h with h|h
   ·exact .inl (List.mem_append_right _ (List.mem_flatMap.2 ⟨p,hp,List.mem_append_left _ h⟩))
   ·obtain⟨⟨s,k⟩,hs,h⟩:=List.mem_flatMap.1 h;obtain⟨e1,v,hv,hn,hh,rfl⟩:=Wy hc (List.mem_zipIdx_iff_getElem?.1 hs);have q:=Di (eo x p) hn.name;have Pn:∀{a:Us},a∈pw (eo x p).cm.aS hn.name->∀{e:Nd×Nd},e∈p7 ar (eo x p) ⟨5,((eo x p).i:Nat),(k:Nat)⟩ a->n=e.1\/n=e.2->n∈fN ar x\/∃e∈fE ar x,n=e.1\/n=e.2:=fun{a} ha e he fL=>by
     obtain⟨v',ee,h',Kz,e2,hb⟩:=Dw.1 ha;exact .inr ⟨e,inE hp (MK.2 ⟨v',ee,h',Kz,a,hb,by rw[e2,e1];exact he⟩),fL⟩
    unfold gN at h;rw[xF,xF,xF] at h;rcases h with h|h|h|h
    ·obtain rfl:=xy.1 h;refine .inl (List.mem_append_right _ (List.mem_flatMap.2 ⟨p,hp,List.mem_append_right _ (xJ.2 ⟨hn,List.mem_flatten.2 ⟨v,hv,hh⟩,e1⟩)⟩))
    ·unfold dN at h;split at h
     ·rename_i hd;obtain rfl:=xy.1 h;exact Pn ((q.D.1 hd).elim (fun h=>nomatch h) id) (e:=(⟨2,((eo x p).i:Nat),0⟩,⟨5,((eo x p).i:Nat),(k:Nat)⟩)) xn (.inl Y)
     ·cases h
    ·obtain⟨t,ht,rfl⟩:=xJ.1 h;exact Pn (((q.S t).1 ht).elim (fun h=>nomatch h) id) (e:=(⟨5,((eo x p).i:Nat),(k:Nat)⟩,sN (eo x p) t)) xn (.inr Y)
    ·obtain⟨t,ht,rfl⟩:=xJ.1 h;exact Pn (((q.T t).1 ht).elim (fun h=>nomatch h) id) (e:=(⟨5,((eo x p).i:Nat),(k:Nat)⟩,⟨3,((eo x p).i:Nat),0⟩)) xn (.inr Y)
 ·rintro(h|⟨e,he,hn⟩)
  ·rcases xF.1 h with h|h
   ·exact List.mem_append_left _ h
   ·obtain⟨p,hp,h⟩:=List.mem_flatMap.1 h;have hc:=hx.at hp;rcases xF.1 h with h|h
    ·exact Bv hp (List.mem_append_left _ h)
    ·obtain⟨hn,hm,rfl⟩:=xJ.1 h;obtain⟨v,hv,hh⟩:=List.mem_flatten.1 hm;obtain⟨k,hk,e1⟩:=Ns hc hv hh;exact Bv hp (Ik hc hk (by rw[e1];exact List.mem_append_left _ (xy.2 rfl)))
  ·obtain⟨p,hp,he⟩:=List.mem_flatMap.1 he;have hc:=hx.at hp;obtain⟨v,hv,fL,hh,a,ha,he⟩:=MK.1 he;obtain⟨k,hk,e1⟩:=Ns hc hv hh;rw[e1] at he;have hu:a∈pw (eo x p).cm.aS fL.name:=Dw.2 ⟨v,hv,fL,hh,rfl,ha⟩;have q:=Di (eo x p) fL.name;have hg:=hx.f.n;have ho:(⟨5,((eo x p).i:Nat),(k:Nat)⟩:Nd)∈NS ar x:=Bv hp (Ik hc hk (List.mem_append_left _ (xy.2 rfl)));have gn:∀{m:Nd},m∈gN (eo x p) (fL.name,k)->m∈NS ar x:=fun hm=>Bv hp (Ik hc hk hm)
   have to:∀{i al j},ar[i]? =some al->j<al.length->hN ar i (nm 104 j)∈NS ar x:=fun{i al j} aR hj=>by
    have hi:=iB aR;have Hj:(x.f.comps[i]' a0B,i)∈x.f.comps.zipIdx:=List.mem_zipIdx_iff_getElem?.2 (xc a0B);have oH:=hx.at Hj;rw[Df oH aR hj];exact Bv Hj (Ik oH (k:=j) (s:=nm 104 j) (by show(gK ar i)[j]? =_;rw[Ab aR,aP,xx,List.getElem?_range hj];rfl) (List.mem_append_left _ (xy.2 rfl)))
   have th:∀{o y z:Nd},o∈NS ar x->y∈NS ar x->z∈NS ar x->e∈sL o y z->n∈NS ar x:=fun h1 h2 h3 h=>by
    unfold sL at h;simp only [xG,List.not_mem_nil,or_false] at h;rcases h with rfl|rfl|rfl<;>rcases hn with rfl|rfl<;>assumption
   cases a with
   |rd t=>
    obtain⟨m,hm,rfl⟩:=xJ.1 he;rcases hn with rfl|rfl
    ·unfold rN at hm;split at hm
     ·rename_i v hv;obtain rfl:=xy.1 hm;exact Bv hp (List.mem_append_left _ (Tl hv))
     ·split at hm
      ·rename_i w hw;obtain rfl:=xy.1 hm;have:w<x.f.flags.length:=by
        have:=Mm hw;unfold Cx.fn at this;rw[xm] at this;exact this
       exact List.mem_append_left _ (xJ.2 ⟨w,List.mem_range.2 this,rfl⟩)
      ·cases hm
    ·exact ho
   |wr t=>
    obtain⟨v,hv⟩:=ML hc hu;obtain rfl:=xy.1 he;rcases hn with rfl|rfl
    ·exact ho
    ·refine Bv hp (List.mem_append_left _ ?_);have:=Tl hv;unfold wN;rw[hv];exact this
   |dk=>
    have hd:(⟨2,((eo x p).i:Nat),0⟩:Nd)∈NS ar x:=gn (List.mem_append_right _ (List.mem_append_left _ (by unfold dN;rw[i_ (q.D.2 (.inr hu))];exact xy.2 rfl)));have he:e=(⟨2,((eo x p).i:Nat),0⟩,⟨5,((eo x p).i:Nat),(k:Nat)⟩)\/e=(⟨5,((eo x p).i:Nat),(k:Nat)⟩,⟨2,((eo x p).i:Nat),0⟩):=by
     rcases xG.1 he with h|h
     ·exact .inl h
     ·exact .inr (xy.1 h)
    rcases he with rfl|rfl<;>rcases hn with rfl|rfl<;>assumption
   |sn t=>
    have h2:sN (eo x p) t∈NS ar x:=gn (List.mem_append_right _ (List.mem_append_right _ (List.mem_append_left _ (xJ.2 ⟨t,(q.S t).2 (.inr hu),rfl⟩))));have Qs:=Fz hc hu;obtain⟨kk,nn,hd,es,th',el⟩:=t;obtain⟨⟨_,h4,_⟩,rfl⟩:=Qs;obtain⟨i,al,j,aR,rfl,hj,rfl⟩:=h4 rfl;have e5:cN (eo x p) [(97+i).toUInt8]=i:=by unfold cN;rw[IQ hc.f (iB aR)];rfl
    refine th ho h2 (to aR hj) ?_;have he:e∈sL ⟨5,((eo x p).i:Nat),(k:Nat)⟩ (sN (eo x p) (.mk 6 [(97+i).toUInt8] (nm 104 j) es th' el)) (hN ar (cN (eo x p) [(97+i).toUInt8]) (nm 104 j)):=he;rw[e5] at he;exact he
   |tm t=>
    have h2:(⟨3,((eo x p).i:Nat),0⟩:Nd)∈NS ar x:=gn (List.mem_append_right _ (List.mem_append_right _ (List.mem_append_right _ (xJ.2 ⟨t,(q.T t).2 (.inr hu),rfl⟩))));have Qs:=Fz hc hu;obtain⟨kk,nn,hd,es,th',el⟩:=t;obtain⟨⟨_,_,h4⟩,rfl⟩:=Qs;obtain⟨al,j,aR,hj,rfl⟩:=h4 rfl;exact th ho h2 (to aR hj) he
end
open Go.Ex Go.RowKit
noncomputable def GH(r:a0d):Bool:=match r with|[.int .u8 (.ofNat n)]=>Nat.blt n 256|_=>false
noncomputable def OS(G:a0b->Nat->Nat)(i:Nat)(ds:a0d):Option (List D):=match i,ds with
 |114,[.sl rows]=>bs (Nat.ble rows.length 1000000&&rows.all GH) (some ((List.range 32).map fun k=> .int .u8 (G rows k))) none
 |_,_=>none
theorem aJ8(G:a0b->Nat->Nat):Dk F (OS G) 100000 183 0 []=some [.bool true]:=by kernel_rfl
section
variable{X:a0a}
theorem X7(rows:a0b):∃g:Nat->Nat,(Nat.ble rows.length 1000000&&rows.all GH)=true->run F X 114 0 [.sl rows]=some ((List.range 32).map fun k=> .int .u8 (g k)):=by
 cases h:Nat.ble rows.length 1000000&&rows.all GH with
 |false=>exact⟨fun _=>0,fun h=>(nomatch h)⟩
 |true=>
  rw[xf] at h;obtain⟨o,h1,h2⟩:=X6 (X:=X) (rows:=rows) (by have:=xh h.1;omega) (fun r hr=>by
   have:=List.all_eq_true.1 h.2 r hr;unfold GH at this;split at this
   ·rename_i n;exact⟨_,rfl,n,rfl,xK (xh this) (xk 256)⟩
   ·cases this)
  obtain⟨e1,e2⟩:=h2.ol;have hg:∀k,∃n:Nat,k<o.length->o[k]? =some (.int .u8 n):=fun k=>by
   by_cases hk:k<o.length
   ·obtain⟨n,hn,_⟩:=e2 _ (List.getElem_mem hk);exact⟨n,fun _=>by rw[xc hk,hn];rfl⟩
   ·exact⟨0,fun h=>absurd h hk⟩
  refine⟨fun k=>(hg k).choose,fun _=>h1.trans (congrArg some (List.ext_getElem? fun k=> ?_))⟩;by_cases hk:k<o.length
  ·rw[(hg k).choose_spec hk,xx,List.getElem?_range a0B];rfl
  ·rw[List.getElem?_eq_none a0B,List.getElem?_eq_none (by rw[xm,List.length_range];omega)]
theorem aJ7:Rn F X 183 0 [] (·=[.bool true]):=by
 refine⟨_,N7 (X:=X) (O:=OS fun rows=>(X7 (X:=X) rows).choose) (fun i ds o h=> ?_) _ _ _ _ _ (aJ8 _),rfl⟩;unfold OS at h;split at h
 ·rename_i rows;cases hb:Nat.ble rows.length 1000000&&rows.all GH with
  |true=>
   rw[hb] at h;cases h;exact(X7 rows).choose_spec hb
  |false=>rw[hb] at h;cases h
 ·cases h
end
open Go.Ex Go.RowKit Go.Sort Go.Fl
section
variable{X:a0a}{ar:a0f}{x:Cx}
theorem JB{l:a0i}(hl:l.length<=1000000)(n:Nd):aF (.app 3 24) [.sl (Nd.rs l),.sl [n.r]]=some (.sl (Nd.rs (l++[n]))):=by
 have e:(Nd.rs l).length=l.length:=xm _;rw[gb (es:=3) (row:=n.r) rfl rfl a0B a0B];show some (D.sl (List.map Nd.r l++[n.r]))=some (D.sl (List.map Nd.r (l++[n])));rw[List.map_append];rfl
theorem Uj{k:Int}(h0:0<=k)(h1:k<=255):aF (.kS .u8) [.int .i64 k]=some (.int .u8 k):=by
 obtain⟨n,rfl⟩:∃n:Nat,k=n:=⟨k.toNat,a0B⟩;exact yf a0B
theorem ag5(v:Bool)(m n:Nd):aF (.te [.u8,.i64,.i64] v) [.agg m.r,.agg n.r]=some (.bool (decide (m=n) !=v)):=by
 have:pA [.u8,.i64,.i64] m.r n.r=some (decide (m=n)):=by
  obtain⟨a,b,c⟩:=m;obtain⟨d,e,f⟩:=n;simp only [Nd.r,pA,and_self,if_true,Option.map_some,Nd.mk.injEq]
  congr 1
  rw[Bool.eq_iff_iff];simp only [xf,decide_eq_true_eq,Bool.and_true]
 show(pA [.u8,.i64,.i64] m.r n.r).map (fun r=>D.bool (r !=v))=_;rw[this];rfl
theorem bi2(m n:Nd):aF (.te [.u8,.i64,.i64] true) [.agg m.r,.agg n.r]=some (.bool (!decide (m=n))):=by rw[ag5,Bool.bne_true]
theorem Vs{l:a0i}(hl:l.length<=1000000)(hk:∀n∈l,0<=n.k/\n.k<=255):∀(aa V:a0i),l=V++aa->Rn F X 158 1 [.sl (Nd.rs l),.sl (ei l),jD l.length,jD V.length] (·=[.bool true])
 |[],V,hp=>by
  have aL:=iH hp;exact wr Y<|wn Y af<|wt Y Y
 |n::aa,V,hp=>by
  have aL:=gP hp;have ao:(Nd.rs l)[V.length]? =some n.r:=mu hp;have hn:=hk n (by rw[hp];simp);have ih:=Vs hl hk aa (V++[n]) (gi hp);rw[xa] at ih;exact wr Y<|wy Y af<|wo Y (ax (wT hp) rfl)<|wg 1 Y<|wo Y (ax ao Y)<|wg 1 Y<|wo Y (Uj hn.1 hn.2)<|Wp.qQ Y (by rw[bi2,u_ rfl];rfl)<|wo Y oA<|wj ih
theorem af9{l:a0i}(hl:l.length<=1000000)(hk:∀n∈l,0<=n.k/\n.k<=255):Rn F X 158 0 [.sl (Nd.rs l),.sl (ei l)] (·=[.bool true]):=
 Rn.of (fd:=IU) (t:=aV0) rfl rfl rfl rfl (e_ Y (au (n:=l.length) (xm _)) rfl (e_ Y (au (rW l)) rfl (Wp.qQ (ds:=[jD l.length,jD l.length]) rfl (by rw[gG,f_ a0B]) (e_ Y (au (rW l)) rfl (b_ Y (Vs hl hk l [] rfl))))))
theorem XW{l:a0i}(h:l.Nodup):l7 (gW l):=by
 have h1:=O4 l;have h2:(gW l).Nodup:=(oN l).nodup_iff.2 h;exact(h1.and h2).imp fun h=>by have:=Xn h.1 fun e=>h.2 e.symm;exact this
theorem be5{n:Nd}(h:n∈NS ar x):1<=n.k/\n.k<=6:=by
 have key:n.k=1\/n.k=2\/n.k=3\/n.k=4\/n.k=5\/n.k=6:=by
  rcases xF.1 h with h|h
  ·obtain⟨v,_,rfl⟩:=xJ.1 h;exact .inr (.inr (.inr (.inl Y)))
  ·obtain⟨p,_,h⟩:=List.mem_flatMap.1 h;rcases xF.1 h with h|h
   ·obtain⟨v,_,rfl⟩:=xJ.1 h;exact .inl Y
   ·obtain⟨q,_,h⟩:=List.mem_flatMap.1 h;unfold gN at h;rw[xF,xF,xF] at h;rcases h with h|h|h|h
    ·obtain rfl:=xy.1 h;exact .inr (.inr (.inr (.inr (.inl Y))))
    ·unfold dN at h;split at h
     ·obtain rfl:=xy.1 h;exact .inr (.inl Y)
     ·cases h
    ·obtain⟨t,_,rfl⟩:=xJ.1 h;exact .inr (.inr (.inr (.inr (.inr Y))))
    ·obtain⟨t,_,rfl⟩:=xJ.1 h;exact .inr (.inr (.inl Y))
 omega
theorem aD5{n:Nd}(h:n∈NS ar x):0<=n.k/\n.k<=255:=by have:=be5 h;omega
theorem al8(hx:tu ar x){l:a0i}(hd:l.Nodup)(hm:∀n,n∈l↔n∈fN ar x\/∃e∈fE ar x,n=e.1\/n=e.2):gW l=bw [] (NS ar x):=
 Tf (XW hd) (Ca _ [] .nil).1 fun n=>by
  rw[(oN l).mem_iff,hm,<-aO4 hx,zP]
end
inductive rD (E:Nd×Nd->Prop):Nd->Nd->Prop
 |rfl (a:Nd):rD E a a
 |head {a b c:Nd}:E (a,b)->rD E b c->rD E a c
theorem rD.snoc{E:Nd×Nd->Prop}{a b c:Nd}(h:rD E a b)(k:E (b,c)):rD E a c:=by
 induction h with
 |rfl a=>exact .head k (.rfl _)
 |head e _ ih=>exact .head e (ih k)
theorem rD.up{E:Nd×Nd->Prop}{P:Nd->Prop}(hP:∀a b,E (a,b)->P b->P a){a b:Nd}(h:rD E a b)(k:P b):P a:=by
 induction h with
 |rfl a=>exact k
 |head e _ ih=>exact hP _ _ e (ih k)
theorem rD.down{E:Nd×Nd->Prop}{P:Nd->Prop}(hP:∀a b,E (a,b)->P a->P b){a b:Nd}(h:rD E a b)(k:P a):P b:=by
 induction h with
 |rfl a=>exact k
 |head e _ ih=>exact ih (hP _ _ e k)
theorem Vx(m:Nd):∀H:G2,∃v,(jG m.r (bu H)).getD (.sl [])= .sl (Nd.rs v)/\((m,v)∈H\/v=[]/\∀p∈H,p.1≠m)
 |[]=>⟨[],rfl,.inr ⟨rfl,fun p hp=>nomatch hp⟩⟩
 |p::H=>by
  have e:jG m.r (bu (p::H))=if kf m.r (jB p) then some (.sl (Nd.rs p.2)) else jG m.r (bu H):=rfl
  rw[e,M2];by_cases h:p.1=m
  ·rw[u_ h,i_ Y];exact⟨p.2,rfl,.inl (h▸xn)⟩
  ·rw[f_ h,j_ Bool.noConfusion];obtain⟨v,h1,h2⟩:=Vx m H;refine⟨v,h1,h2.imp (xo _) fun h2=>⟨h2.1,fun q hq=> ?_⟩⟩;rcases xG.1 hq with rfl|hq
   ·exact h
   ·exact h2.2 q hq
theorem aY3{k p:Nd}{es:a0h}:p∈tg k es↔(k,p)∈es:=by
 unfold tg;rw[xJ];constructor
 ·rintro⟨e,he,rfl⟩;have:=List.mem_filter.1 he;have h:=of_decide_eq_true this.2;rw[<-h];exact this.1
 ·exact fun h=>⟨_,List.mem_filter.2 ⟨h,u_ rfl⟩,rfl⟩
theorem aX7(m:Nd)(es:a0h):∃v,aF (.u5 KN) [.sl (nx es),.agg m.r,.sl []]=some (.sl (Nd.rs v))/\(∀p,p∈v↔(m,p)∈es)/\v.length<=es.length:=by
 obtain⟨H,h1,h2,_⟩:=ND ((C8 es).map fun k=>(k,gW (tg k es)));obtain⟨v,h3,h4⟩:=Vx m H;have e:aF (.u5 KN) [.sl (nx es),.agg m.r,.sl []]=some ((jG m.r (nx es)).getD (.sl [])):=rfl;refine⟨v,by rw[e,<-h3];unfold nx;rw[h2],?_⟩;rcases h4 with h4|⟨rfl,h4⟩
 ·obtain⟨k,_,e⟩:=xJ.1 (h1.mem_iff.1 h4);cases e;exact⟨fun p=>(oN _).mem_iff.trans aY3,by rw[(oN _).length_eq];exact J6 _ _⟩
 ·refine⟨fun p=>⟨fun h=>(nomatch h),fun h=> ?_⟩,xL _⟩;have hk:m∈C8 es:=FA.2 ((oN _).mem_iff.2 (xJ.2 ⟨_,h,rfl⟩));exact absurd rfl (h4 _ (h1.mem_iff.2 (xJ.2 ⟨m,hk,rfl⟩)))
theorem Yx(n:Nd):∀l:a0i,(jG n.r (l.map cL)).getD (.bool false)= .bool (decide (n∈l))
 |[]=>rfl
 |x::l=>by
  have e:jG n.r ((x::l).map cL)=if kf n.r (cL x) then some (.bool true) else jG n.r (l.map cL):=rfl
  have e2:kf n.r (cL x)=decide (x=n):=CW n x;rw[e,e2];by_cases h:x=n
  ·rw[u_ h,i_ Y,u_ (h▸xn)];rfl
  ·rw[f_ h,j_ Bool.noConfusion,Yx n l]
   congr 1
   exact decide_eq_decide.2 ⟨xo _,fun k=>(xG.1 k).elim (fun e=>absurd e.symm h) id⟩
theorem Kh(n:Nd)(l:a0i):aF (.u5 KN) [.sl (l.map cL),.agg n.r,.bool false]=some (.bool (decide (n∈l))):=congrArg some (Yx n l)
theorem bq1(m n:Nd):aF (.te [.u8,.i64,.i64] false) [.agg m.r,.agg n.r]=some (.bool (decide (m=n))):=by rw[ag5,Bool.bne_false]
section
variable{X:a0a}{F:List FD}{i:Nat}{env ds:a0d}{Q:a0d->Prop}
theorem Wp.tf{f j:Nat}{us:a0e}{t e:DT}{p:Prop}[Decidable p](h1:aH (aX (lk env)) us=some ds)(h2:Rn F X j 0 ds (·=[.bool (decide p)]))(ht:p->Wp F X i t (env++[.bool true]) Q)(he: ¬p->Wp F X i e (env++[.bool false]) Q):
 Wp F X i (.call f j us [some (.bool true)] t (.call f j us [some (.bool false)] e .stop)) env Q:=by
 by_cases h:p
 ·rw[u_ h] at h2;exact Wp.ig h1 h2 rfl (ht h)
 ·rw[f_ h] at h2;exact Wp.AG h1 h2 rfl (Wp.ig h1 h2 rfl (he h))
end
section
variable{X:a0a}
theorem XR(x y:Nd):qx x y=0↔x=y:=by
 have h1:∀a b:Int,pa a b=0↔a=b:=fun a b=>by
  unfold pa;split
  ·omega
  ·split<;>omega
 rw[Nd.eq_iff,<-h1 x.k,<-h1 x.a,<-h1 x.b];unfold qx;split
 ·omega
 ·split<;>omega
theorem aO6{n:Nat}(h:n<=100000000):aF (.kS .u64) [jD n]=some (gJ n):=by
 show some (D.int .u64 (IntKind.u64.wrap n))=_;rw[IntWalk.u64_in _ a0B]
theorem aX4{n:Nat}(h:n<=100000000):aF (.kS .i64) [gJ n]=some (jD n):=Ai a0B
theorem SF{l:a0i}(hl:l.length<=1000000)(hs:l7 l)(t:Nd):∀(d lo hi:Nat),hi - lo<=d->lo<=hi->hi<=l.length->(∀j (h:j<l.length),j<lo->aA l[j] t=true)->(∀j (h:j<l.length),hi<=j->aA l[j] t=false)->
 Rn F X 135 1 ([.sl (Nd.rs l),jD l.length,jD lo,jD hi]++t.r) (fun o=>∃k,o=[jD k,.bool (decide (t∈l))])
 |d,lo,hi,hd,h1,h2,h3,h4=>by
  have EU:∀j (h:j<l.length),(Nd.rs l)[j]? =some l[j].r:=fun j h=>by
   show(l.map Nd.r)[j]? =_;rw[xx,xc h];rfl
  refine wr Y ?_;by_cases bm:lo<hi
  ·obtain⟨d,rfl⟩:∃e,d=e+1:=⟨d - 1,a0B⟩;have hm:(lo+hi)/2<l.length:=a0B
   refine wy Y af<|wo Y (bg (a:=lo) (b:=hi) a0B)<|wo Y (aO6 a0B)<|wo Y (IT (lo+hi) 1 a0I)<|wo Y (aX4 a0B)<|wo Y (ax (EU _ hm) rfl)<|wg 1 Y ?_;dsimp only [c_,n_];refine W.lt Y Y ?_ ?_<;>intro h
   ·refine wo Y oA<|b_ Y ?_;refine SF hl hs t d _ hi a0B a0B h2 (fun j hj bm=> ?_) h4;by_cases e:j=(lo+hi)/2
    ·subst e;exact h
    ·exact JN ((List.pairwise_iff_getElem.1 hs) j _ hj hm a0B) h
   ·refine b_ Y ?_;refine SF hl hs t d lo _ a0B a0B a0B h3 (fun j hj aN=> ?_);cases hc:aA l[j] t with
    |false=>rfl
    |true=>
     by_cases e:j=(lo+hi)/2
     ·subst e;rw[hc] at h;cases h
     ·have:=JN ((List.pairwise_iff_getElem.1 hs) _ j hm hj a0B) hc;rw[this] at h;cases h
  ·obtain rfl:hi=lo:=a0B
   have JJ:∀x:Nd,aA x x=false:=qp.irrefl;have o9:t∈l↔∃h:hi<l.length,l[hi]=t:=by
    constructor
    ·intro hm;obtain⟨j,hj,rfl⟩:=List.getElem_of_mem hm;have jv:hi<=j:=by
      by_cases h:j<hi
      ·have:=h3 j hj h;rw[JJ] at this;cases this
      ·omega
     by_cases e:hi=j
     ·subst e;exact⟨hj,rfl⟩
     ·have a:=h4 hi a0B (xk _);rw[(List.pairwise_iff_getElem.1 hs) hi j a0B hj a0B] at a;cases a
    ·rintro⟨h,rfl⟩;exact List.getElem_mem h
   refine wn Y af ?_;by_cases hb:hi<l.length
   ·refine wy Y af<|wo Y (ax (EU _ hb) rfl)<|wg 2 Y ?_;dsimp only [c_,n_];refine Wp.ig (o:=[gm (qx l[hi] t)]) rfl YO rfl<|d_ (ds:=[gm (qx l[hi] t),gm 0]) rfl ay ?_ ?_<;>intro h
    ·exact wt Y ⟨hi,by rw[u_ (o9.2 ⟨hb,(XR _ _).1 h⟩)]⟩
    ·exact wt Y ⟨hi,by rw[f_ fun hm=>h ((XR _ _).2 (o9.1 hm).2)]⟩
   ·refine wn Y af<|wt Y ⟨hi,?_⟩;rw[f_ fun hm=>hb (o9.1 hm).1]
theorem rV{l:a0i}(hl:l.length<=1000000)(hs:l7 l)(t:Nd):Rn F X 135 0 ([.sl (Nd.rs l)]++t.r) (fun o=>∃k,o=[jD k,.bool (decide (t∈l))]):=by
 exact wr Y<|wo Y (au (xm _))<|b_ Y (SF hl hs t l.length 0 l.length a0B a0B (xk _) (fun _ _ h=>absurd h (Nat.not_lt_zero _)) fun _ h k=>absurd h a0B)
theorem ix1{l:a0i}(hl:l.length<=1000000)(t:Nd):∀(aa V:a0i),l=V++aa->Rn F X 134 1 ([.sl (Nd.rs l),jD l.length,jD V.length]++t.r) (fun o=>∃k:Int,o=[.int .i64 k]/\(0<=k↔t∈aa))
 |[],V,hp=>by
  have aL:=iH hp;exact wr Y<|wn Y af<|wt Y ⟨-1,rfl,fun h=>absurd h a0I,fun h=>(nomatch h)⟩
 |n::aa,V,hp=>by
  have aL:=gP hp;have ao:(Nd.rs l)[V.length]? =some n.r:=mu hp;have ih:=ix1 hl t aa (V++[n]) (gi hp);rw[xa] at ih;refine wr Y<|wy Y af<|wo Y (ax ao Y)<|wg 1 Y<|d_ Y (bq1 t n) ?_ ?_<;>intro h
  ·exact wt Y ⟨(V.length:Nat),rfl,fun _=>h▸xn,fun _=>Int.natCast_nonneg _⟩
  ·exact wo Y oA<|b_ Y (ih.mono fun o ⟨k,e,hk⟩=>⟨k,e,hk.trans ⟨xo _,fun m=>(xG.1 m).elim (fun e=>absurd e h) id⟩⟩)
theorem bl7{l:a0i}(hl:l.length<=1000000)(t:Nd):Rn F X 134 0 ([.sl (Nd.rs l)]++t.r) (fun o=>∃k:Int,o=[.int .i64 k]/\(0<=k↔t∈l)):=by
 exact wr Y<|wo Y (au (xm _))<|wj (ix1 hl t l [] rfl)
end
def my(N:a0i)(s:a0i×a0i)(p:Nd):a0i×a0i:=if p∈s.1 then s else if p∈N then(s.1++[p],s.2++[p]) else s
structure VQ (N L I O I' O':a0i):Prop where
 m:∀x,x∈I'↔x∈I\/x∈L/\x∈N
 o:∀x,x∈O'↔x∈O\/x∈I'/\x∉I
 nd:I.Nodup->I'.Nodup
 len:O'.length+I.length=O.length+I'.length
theorem Gf(N:a0i):∀(L I O:a0i),VQ N L I O (L.foldl (my N) (I,O)).1 (L.foldl (my N) (I,O)).2
 |[],I,O=>⟨fun x=>a0C,fun x=>a0C,id,rfl⟩
 |p::L,I,O=>by
  have e:(p::L).foldl (my N) (I,O)=L.foldl (my N) (my N (I,O) p):=rfl;rw[e];by_cases h1:p∈I
  ·rw[show my N (I,O) p=(I,O) from i_ h1];have h:=Gf N L I O;exact⟨fun x=>by rw[h.m];grind,h.o,h.nd,h.len⟩
  ·by_cases h2:p∈N
   ·rw[show my N (I,O) p=(I++[p],O++[p]) from(j_ h1).trans (i_ h2)];have h:=Gf N L (I++[p]) (O++[p]);have hm:=h.m;have ho:=h.o;have hl:=h.len;rw[xa,xa,List.length_singleton] at hl;refine⟨fun x=>by rw[hm];grind,fun x=> ?_,fun k=>h.nd (Jj k h1),a0B⟩;have:=hm x;have:=hm p;rw[ho];grind
   ·rw[show my N (I,O) p=(I,O) from(j_ h1).trans (j_ h2)];have h:=Gf N L I O;exact⟨fun x=>by rw[h.m];grind,h.o,h.nd,h.len⟩
theorem yc(l:a0i):(Nd.rs l).length=l.length:=xm _
section
variable{X:a0a}{N:a0i}{a b:a0b}
theorem cf1(hN:N.length<=1000000)(I:a0i):∀(aa V:a0i),N=V++aa->Rn F X 136 1 [.sl (Nd.rs (V.filter fun n=>decide (n∈I))),.sl (Nd.rs N),jD N.length,jD V.length,.sl a,.sl b,.sl (I.map cL)] (·=[.sl (Nd.rs (N.filter fun n=>decide (n∈I))),.sl (Nd.rs N),.sl a,.sl b,.sl (I.map cL)])
 |[],V,hp=>by
  have aL:=iH hp;rw[xj] at hp;subst hp;exact wr Y<|wn Y af<|wt Y Y
 |n::aa,V,hp=>by
  have aL:=gP hp;have ih:=cf1 hN I aa (V++[n]) (gi hp);rw[xa,List.filter_append] at ih;have ho:(V.filter fun n=>decide (n∈I)).length<=1000000:=xH (List.length_filter_le _ _) a0B;refine wr Y<|wy Y af<|wo Y (ax (mu hp) rfl)<|wg 1 Y ?_;dsimp only [c_,n_];refine d_ Y (Kh n I) ?_ ?_<;>intro h
  ·rw[show[n].filter (fun n=>decide (n∈I))=[n] from by simp[h]] at ih;exact wg 2 Y<|wo Y (JB ho n)<|wo Y oA<|wj ih
  ·rw[show[n].filter (fun n=>decide (n∈I))=[] from by simp[h],xj] at ih;exact wo Y oA<|wj ih
theorem br7(hN:N.length<=1000000)(I:a0i):Rn F X 136 0 [.sl (Nd.rs N),.sl a,.sl b,.sl (I.map cL)] (·=[.sl (Nd.rs (N.filter fun n=>decide (n∈I))),.sl (Nd.rs N),.sl a,.sl b,.sl (I.map cL)]):=by
 exact wr Y<|wo Y (au (yc N))<|wj (cf1 hN I N [] rfl)
theorem Ua(hN:N.length<=1000000)(hs:l7 N){h:Nat}(hh:h=1\/h=3){L:a0i}(hL:L.length<=1000000){Q:a0d->Prop}:∀(aa V:a0i),L=V++aa->∀{I O:a0i},I.Nodup->(∀x∈I,x∈N)->O.length<=I.length->
 Rn F X 138 2 [.sl (Nd.rs N),.sl a,.sl b,.sl (Nd.rs (aa.foldl (my N) (I,O)).2),.sl ((aa.foldl (my N) (I,O)).1.map cL)] Q->
 Rn F X 138 h [.sl (Nd.rs L),jD L.length,jD V.length,.sl (Nd.rs N),.sl a,.sl b,.sl (Nd.rs O),.sl (I.map cL)] Q
 |[],V,hp,I,O,_,_,_,K=>by
  have aL:=iH hp;rcases hh with rfl|rfl<;>exact Rn.of (fd:=Dj) rfl rfl rfl rfl (Wp.c8 (ds:=[jD V.length,jD L.length]) rfl af a0B (b_ Y K))
 |p::aa,V,hp,I,O,h1,h2,h3,K=>by
  have aL:=gP hp;have next:=fun{I' O':a0i} k1 k2 k3 k4=>Ua hN hs hh hL (Q:=Q) aa (V++[p]) (gi hp) (I:=I') (O:=O') k1 k2 k3 k4
  rw[xa] at next;rw[show(p::aa).foldl (my N) (I,O)=aa.foldl (my N) (my N (I,O) p) from Y] at K;have aE:I.length<=N.length:=h1.length_le_of_subset fun x hx=>h2 x hx
  obtain⟨_,hq,k,rfl⟩:=rV (X:=X) hN hs p;have bn:Rn F X 135 0 (.sl (Nd.rs N)::p.r) (·=[jD k,.bool (decide (p∈N))]):=⟨_,hq,rfl⟩;have EU:=mu (f:=Nd.r) hp
  rcases hh with rfl|rfl
  all_goals
   refine Rn.of (fd:=Dj) rfl rfl rfl rfl (Wp.dt (ds:=[jD V.length,jD L.length]) rfl af a0B (e_ Y (ax EU rfl) rfl (o_ (l:=p.r) rfl rfl rfl ?_)));dsimp only [c_,n_];refine d_ Y (Kh p I) (fun hI=> ?_) (fun hI=>Wp.note ?_)
   ·rw[show my N (I,O) p=(I,O) from i_ hI] at K;exact wo Y oA<|wj (next h1 h2 h3 K)
   by_cases hP:p∈N
   ·rw[show my N (I,O) p=(I++[p],O++[p]) from(j_ hI).trans (i_ hP)] at K;rw[u_ hP] at bn;have up:=uo p I;rw[show iI p I=I++[p] from j_ hI] at up;exact wL Y bn rfl<|wo Y up<|wg 2 Y<|wo Y (JB a0B p)<|wo Y oA<|b_ Y (next (Jj h1 hI) (fun x hx=>(xF.1 hx).elim (h2 x) fun e=>xy.1 e▸hP) (by rw[xa,xa];omega) K)
   ·rw[show my N (I,O) p=(I,O) from(j_ hI).trans (j_ hP)] at K;rw[f_ hP] at bn;exact wL Y bn rfl<|wo Y oA<|wj (next h1 h2 h3 K)
end
section
variable{X:a0a}{N to:a0i}{E:a0h}{a:a0b}
abbrev EW(E:a0h)(N to:a0i)(x:Nd):Prop:=∃m∈to,m∈N/\rD (· ∈E) x m
structure CI (E:a0h) (N to I O:a0i):Prop where
 nd:I.Nodup
 n:∀x∈I,x∈N
 o:∀x∈O,x∈I
 len:O.length<=I.length
 za:∀x∈I,EW E N to x
 t:∀m∈to,m∈N->m∈I
 cl:∀x∈I,x∈O\/∀p,(p,x)∈E->p∈I
theorem co2(hN:N.length<=1000000)(hs:l7 N)(hE:∀e∈E,e.1∈N)(Ia:E.length<=1000000):∀(k:Nat) (I O:a0i),2*(N.length - I.length)+O.length<=k->CI E N to I O->
 Rn F X 138 2 [.sl (Nd.rs N),.sl a,.sl (nx (E.map kr)),.sl (Nd.rs O),.sl (I.map cL)] (fun o=>∃I:a0i,o=[.sl (Nd.rs (N.filter fun n=>decide (n∈I))),.sl (Nd.rs N),.sl a,.sl (nx (E.map kr))]/\∀n∈N,n∈I↔EW E N to n)
 |k,I,O,hk,c=>by
  have aE:I.length<=N.length:=c.nd.length_le_of_subset fun x hx=>c.n x hx
  have mJ:=c.len;refine wr Y<|wo Y (au (yc O)) ?_;rcases List.eq_nil_or_concat O with rfl|⟨O,n,rfl⟩
  ·refine wg 1 Y<|wl Y (br7 hN I) rfl<|wt Y ⟨I,rfl,fun n _=>⟨c.za n,fun⟨m,h1,h2,h3⟩=> ?_⟩⟩;exact h3.up (P:=(· ∈I)) (fun p x e hx=>((c.cl x hx).elim (fun h=>nomatch h) id) p e) (c.t m h1 h2)
  ·rw[List.concat_eq_append] at*;rw[xa,List.length_singleton] at hk mJ;obtain⟨k,rfl⟩:∃e,k=e+1:=⟨k - 1,a0B⟩;obtain⟨v,g1,g2,g3⟩:=aX7 n (E.map kr);rw[xm] at g3;have g4:∀p,p∈v↔(p,n)∈E:=fun p=>(g2 p).trans ⟨fun h=>by obtain⟨⟨x,y⟩,h2,e⟩:=xJ.1 h;cases e;exact h2,fun h=>xJ.2 ⟨_,h,rfl⟩⟩
   have hnI:n∈I:=c.o n (List.mem_append_right _ xn);have q:=Gf N v I O;have st:=Ua (X:=X) hN hs (h:=3) (.inr Y) (L:=v) a0B (a:=a) (b:=nx (E.map kr)) (Q:=fun o=>∃I:a0i,o=[.sl (Nd.rs (N.filter fun n=>decide (n∈I))),.sl (Nd.rs N),.sl a,.sl (nx (E.map kr))]/\∀n∈N,n∈I↔EW E N to n) v [] rfl (I:=I) (O:=O) c.nd c.n a0B (by
    have fj:=q.nd c.nd;have h2:∀x∈(v.foldl (my N) (I,O)).1,x∈N:=fun x hx=>((q.m x).1 hx).elim (c.n x) (·.2)
    have aL:=fj.length_le_of_subset fun x hx=>h2 x hx
    have dK:=q.len;have HK:I.length<=(v.foldl (my N) (I,O)).1.length:=c.nd.length_le_of_subset fun x hx=>(q.m x).2 (.inl hx)
    refine co2 hN hs hE Ia k _ _ a0B ⟨fj,h2,fun x hx=> ?_,a0B,fun x hx=> ?_,fun m h1 h2=>(q.m m).2 (.inl (c.t m h1 h2)),fun x hx=> ?_⟩
    ·exact((q.o x).1 hx).elim (fun h=>(q.m x).2 (.inl (c.o x (List.mem_append_left _ h)))) (·.1)
    ·rcases(q.m x).1 hx with h|h
     ·exact c.za x h
     ·obtain⟨m,k1,k2,k3⟩:=c.za n hnI;exact⟨m,k1,k2,.head ((g4 x).1 h.1) k3⟩
    ·by_cases h:x∈I
     ·rcases c.cl x h with h4|h4
      ·rcases xF.1 h4 with h5|h5
       ·exact .inl ((q.o x).2 (.inl h5))
       ·obtain rfl:=xy.1 h5;exact .inr fun p hp=>(q.m p).2 (.inr ⟨(g4 p).2 hp,hE _ hp⟩)
      ·exact .inr fun p hp=>(q.m p).2 (.inl (h4 p hp))
     ·exact .inl ((q.o x).2 (.inr ⟨hx,h⟩)))
   have ao:(Nd.rs (O++[n]))[O.length]? =some n.r:=mu (l:=O++[n]) rfl;have hO:(O++[n]).length=O.length+1:=by rw[xa];rfl
   have fW:aF .Dx [.sl (Nd.rs (O++[n])),jD O.length]=some (.sl (Nd.rs O)):=by
    show(if O.length<=(Nd.rs (O++[n])).length then some (D.sl ((Nd.rs (O++[n])).take O.length)) else none)=_;rw[yc,i_ a0B,show Nd.rs (O++[n])=Nd.rs O++[n.r] from List.map_append,List.take_left' (yc O)]
   have lnO:aF .sj [.sl (Nd.rs (O++[n]))]=some (jD (O.length+1)):=au ((yc _).trans hO);rw[hO];exact wy Y bZ<|wo Y lnO<|wo Y (nF a0B)<|wy Y (nZ ((yc _).trans hO))<|o_ Y (Fk ao Y) rfl<|wo Y lnO<|wo Y (nF a0B)<|wo Y fW<|wo Y g1<|wo Y (au (yc v))<|wj st
theorem OU(hN:N.length<=1000000)(hs:l7 N)(hE:∀e∈E,e.1∈N)(Ia:E.length<=1000000)(ht:to.length<=1000000):Rn F X 138 0 [.sl (Nd.rs N),.sl a,.sl (nx (E.map kr)),.sl (Nd.rs to)] (fun o=>∃I:a0i,o=[.sl (Nd.rs (N.filter fun n=>decide (n∈I))),.sl (Nd.rs N),.sl a,.sl (nx (E.map kr))]/\∀n∈N,n∈I↔EW E N to n):=by
 have q:=Gf N to [] [];have h2:∀x∈(to.foldl (my N) ([],[])).1,x∈to/\x∈N:=fun x hx=>((q.m x).1 hx).elim (fun h=>nomatch h) id
 refine wr Y<|wg 1 Y<|wo Y (au (yc to))<|b_ Y ?_;refine Ua hN hs (.inl Y) ht to [] rfl (I:=[]) (O:=[]) .nil (fun x h=>nomatch h) (xk _) ?_;refine co2 hN hs hE Ia _ _ _ (xk _) ⟨q.nd .nil,fun x hx=>(h2 x hx).2,fun x hx=>((q.o x).1 hx).elim (fun h=>nomatch h) (·.1),?_,fun x hx=>⟨x,(h2 x hx).1,(h2 x hx).2,.rfl x⟩,fun m h1 h2=>(q.m m).2 (.inr ⟨h1,h2⟩),fun x hx=> .inl ((q.o x).2 (.inr ⟨hx,fun h=>nomatch h⟩))⟩;have:=q.len;simp at this;omega
end
theorem E4(m:Nd)(es:a0h):(jG m.r (nx es)).getD (.sl [])= .sl (Nd.rs (gW (tg m es)))/\(jG m.r (nx es)).isSome=decide (gW (tg m es)≠[]):=by
 obtain⟨H,h1,h2,_⟩:=ND ((C8 es).map fun k=>(k,gW (tg k es)));obtain⟨v,h3,h4⟩:=Vx m H;have e:nx es=bu H:=h2;rw[e];have hn:∀{x:a0i},(∃p,p∈x)->x≠[]:=fun⟨p,h⟩ e=>by rw[e] at h;cases h
 have hk:m∈C8 es↔gW (tg m es)≠[]:=by
  unfold C8;rw[FA,(oN _).mem_iff,xJ];refine⟨fun⟨e,h,k⟩=>hn ⟨e.2,(oN _).mem_iff.2 (aY3.2 (k▸h))⟩,fun h=> ?_⟩;obtain⟨p,hp⟩:=List.exists_mem_of_ne_nil _ h;exact⟨_,aY3.1 ((oN _).mem_iff.1 hp),rfl⟩
 rcases h4 with h4|⟨rfl,h4⟩
 ·obtain⟨k,h5,e⟩:=xJ.1 (h1.mem_iff.1 h4);cases e;refine⟨h3,?_⟩;rw[u_ (hk.1 h5)];cases h:jG m.r (bu H) with
  |none=>rw[h] at h3;exact absurd (List.map_eq_nil_iff.1 (D.sl.inj h3).symm) (hk.1 h5)
  |some d=>rfl
 ·have h0: ¬m∈C8 es:=fun h=>h4 _ (h1.mem_iff.2 (xJ.2 ⟨m,h,rfl⟩)) rfl
  have h5:gW (tg m es)=[]:=Decidable.byContradiction fun h=>h0 (hk.2 h)
  rw[h5];refine⟨h3,?_⟩;have:∀G:G2,(∀p∈G,p.1≠m)->jG m.r (bu G)=none:=fun G=>by
   induction G with
   |nil=>exact fun _=>rfl
   |cons p G ih=>
    intro h;show(if kf m.r (jB p) then some (.sl (Nd.rs p.2)) else jG m.r (bu G))=none;rw[M2,f_ (h p xn),j_ Bool.noConfusion];exact ih fun q hq=>h q (xo _ hq)
  rw[this H h4];rfl
section
variable{X:a0a}{N:a0i}{E:a0h}{Q:a0d->Prop}{i:Nat}{env:a0d}
structure OH (N:a0i) (E:a0h):Prop where
 n:N.length<=1000000
 asc:l7 N
 e:E.length<=1000000
 e1:∀e∈E,e.1∈N
 e2:∀e∈E,e.2∈N
abbrev gD(N:a0i)(E:a0h):a0d:=[.sl (Nd.rs N),.sl (nx E),.sl (nx (E.map kr))]
theorem Wp.edg(H:OH N E){us ws:a0e}{q:Nat}{m:Nd}{e0 e1 t:DT}(h1:aH (bR (lk env)) us=some [.sl (nx E),.agg m.r,.sl []])(h2:∀l,aH (bR (lk (env++[.sl l]))) [cd q]=some [.sl l])(h3:∀l,aH (bR (lk (env++[.sl l]++[.sl []]))) ws=some [.sl [],.sl l])
 (ht:Wp F X i t (env++[.sl (Nd.rs (gW (tg m E)))]++[.sl []]++[.sl (Nd.rs (gW (tg m E)))]) Q) (he:gW (tg m E)=[]->Wp F X i e1 env Q):
 Wp F X i (.br (.ko KN) us (.op (.u5 KN) us (.br (.AV false) [cd q] e0 (.op (.dB 3 0) [] (.op (.app 3 24) ws t)))) e1) env Q:=by
 obtain⟨k1,k2⟩:=E4 m E;have o1:aF (.ko KN) [.sl (nx E),.agg m.r,.sl []]=some (.bool (decide (gW (tg m E)≠[]))):=by rw[<-k2];rfl
 have o2:aF (.u5 KN) [.sl (nx E),.agg m.r,.sl []]=some (.sl (Nd.rs (gW (tg m E)))):=by rw[<-k1];rfl
 have hl:(gW (tg m E)).length<=1000000:=by rw[(oN _).length_eq];exact xH (J6 _ _) H.e
 have aL:=yc (gW (tg m E));refine Wp.aD h1 o1 (fun h=> ?_) (fun h=>he (Decidable.byContradiction h));have o3:aF (.AV false) [.sl (Nd.rs (gW (tg m E)))]=some (.bool false):=by
  cases hz:gW (tg m E) with
  |nil=>exact absurd hz h
  |cons x l=>rfl
 have o4:aF (.app 3 24) [.sl [],.sl (Nd.rs (gW (tg m E)))]=some (.sl (Nd.rs (gW (tg m E)))):=yg (es:=3) (bys:=24) (rows:=[]) (q:=Nd.rs (gW (tg m E))) (fun row hr=>by obtain⟨c,_,rfl⟩:=xJ.1 hr;exact⟨rfl,rfl⟩) (by rw[aL];show 0+_<=_;omega) (by rw[aL];show(0+_)*24<=_;omega);refine Wp.op h1 o2 rfl<|Wp.qQ (h2 _) o3<|wg 1 Y<|e_ (h3 _) o4 rfl ?_;exact ht
end
section
variable{X:a0a}{N:a0i}{E Es:a0h}{ar:a0f}{x:Cx}
theorem aa8(n:Nd)(e:Nd×Nd)(es:a0h):tg n (es++[e])=if e.1=n then tg n es++[e.2] else tg n es:=by
 unfold tg;rw[List.filter_append,List.map_append];by_cases h:e.1=n<;>simp[h]
theorem Yu(hl:Es.length<=1000000)(n:Nd):∀(aa V:a0h),Es=V++aa->Rn F X 151 1 ([.sl (ei (bw [] (tg n V))),.sl (hZ Es),jD Es.length,jD V.length]++n.q) (·=[.sl (ei (bw [] (tg n Es)))])
 |[],V,hp=>by
  have aL:=iH hp;rw[xj] at hp;subst hp;exact wr Y<|wn Y af<|wt Y Y
 |e::aa,V,hp=>by
  have aL:=gP hp;have ih:=Yu hl n aa (V++[e]) (gi hp);rw[xa,aa8] at ih;have ao:(hZ Es)[V.length]? =some (Yh e):=mu hp;have hb:=vl (ns:=tg n V);have bP:=J6 n V;obtain⟨u,v⟩:=e;refine wr Y<|wy Y af<|wo Y (ax ao Y)<|wg 1 Y ?_;dsimp only [c_,n_];refine d_ Y (Y4 u n) ?_ ?_<;>intro h
  ·rw[i_ h,<-yV] at ih;exact wl Y (tG a0B v) rfl<|wo Y oA<|wj ih
  ·rw[j_ h] at ih;exact wo Y oA<|wj ih
theorem aM9(hl:Es.length<=1000000)(n:Nd):Rn F X 151 0 ([.sl (hZ Es)]++n.q) (·=[.sl (ei (bw [] (tg n Es)))]):=by
 exact wr Y<|wo Y (au (xm _))<|wj (Yu hl n Es [] rfl)
theorem aM7(hx:tu ar x){n:Nd}(h:n∈NS ar x)(hk:n.k=6):n.a<=2:=by
 have hn:=hx.f.n;rcases xF.1 h with h|h
 ·obtain⟨v,_,rfl⟩:=xJ.1 h;cases hk
 ·obtain⟨p,hp,h⟩:=List.mem_flatMap.1 h;have hi:=(xe.1 (List.mem_zipIdx_iff_getElem?.1 hp)).1;rcases xF.1 h with h|h
  ·obtain⟨v,_,rfl⟩:=xJ.1 h;cases hk
  ·obtain⟨q,_,h⟩:=List.mem_flatMap.1 h;unfold gN at h;rw[xF,xF,xF] at h;rcases h with h|h|h|h
   ·obtain rfl:=xy.1 h;cases hk
   ·unfold dN at h;split at h
    ·obtain rfl:=xy.1 h;cases hk
    ·cases h
   ·obtain⟨t,_,rfl⟩:=xJ.1 h;show((p.2:Nat):Int)<=2;omega
   ·obtain⟨t,_,rfl⟩:=xJ.1 h;cases hk
structure EH (N:a0i) (E Es:a0h):Prop where
 g:OH N E
 k:∀n∈N,0<=n.k/\n.k<=255
 es:Es.length<=1000000
 nx:∀n,gW (tg n E)=bw [] (tg n Es)
 no:tg ⟨6,7,7⟩ E=[]
theorem ed1(H:EH N E Es):∀(aa V:a0i),N=V++aa->Rn F X 161 1 ([.sl (hZ Es),.sl (ei N),jD N.length,jD V.length]++gD N E) (·=[.bool true])
 |[],V,hp=>by
  have aL:=iH hp;have hn:=H.g.n;obtain⟨_,k2⟩:=E4 ⟨6,7,7⟩ E;rw[H.no] at k2;have o1:aF (.ko KN) [.sl (nx E),.agg (Nd.r ⟨6,7,7⟩),.sl []]=some (.bool false):=by
   show some (D.bool (jG (Nd.r ⟨6,7,7⟩) (nx E)).isSome)=_;rw[k2,show gW []=[] from List.mergeSort_nil];rfl
  exact wr Y<|wn Y af<|Wp.qQ Y o1<|wt Y Y
 |n::aa,V,hp=>by
  have aL:=gP hp;have hn:=H.g.n;have ih:=ed1 H aa (V++[n]) (gi hp);rw[xa] at ih;have hm:n∈N:=by rw[hp];exact List.mem_append_right _ xn
  have hk:=H.k n hm;have nk:=aM9 (X:=X) H.es n;rw[<-H.nx n] at nk;have hL:(gW (tg n E)).length<=1000000:=by rw[(oN _).length_eq];exact xH (J6 _ _) H.g.e
  have sm:=af9 (X:=X) hL fun m h=>H.k m (H.g.e2 _ (aY3.1 ((oN _).mem_iff.1 h)))
  refine wr Y<|wy Y af<|wo Y (ax (wT hp) rfl)<|wg 1 Y<|wo Y (Uj hk.1 hk.2) ?_;dsimp only [c_,n_];refine Wp.edg H.g (m:=n) rfl (fun _=>rfl) (fun _=>rfl) ?_ (fun h=> ?_)
  ·exact wl Y nk rfl<|wl Y sm rfl<|wo Y oA<|wj ih
  ·rw[h] at nk sm;exact wl Y nk rfl<|wl Y sm rfl<|wo Y oA<|wj ih
theorem aV2{es:a0h}(h:es.Nodup)(n:Nd):(tg n es).Nodup:=
 List.pairwise_map.2 ((h.filter _).imp_of_mem fun{a b} ha hb hn e=>hn (Prod.ext ((of_decide_eq_true (List.mem_filter.1 ha).2).trans (of_decide_eq_true (List.mem_filter.1 hb).2).symm) e))
theorem Zr(p:ui):Rn F X 161 0 p.d (·=[.bool true]):=by
 have aw:=aJ7 (X:=X);obtain⟨o,hq,f,ar,src,rows,ids,rfl,hf,hp,dP⟩:=aP6 (X:=X) p;have mk:Rn F X 108 0 p.d (·=ny f src ids rows::f.r):=⟨_,hq,rfl⟩;have hx:tu ar (⟨f,src,ids,rows,0,⟨[],[],[]⟩⟩:Cx):=⟨hf,hp,dP.len⟩;obtain⟨o2,qF,ns,E,rfl,h1,h2,h3,h4,h5,h6⟩:=bd8 (X:=X) hx;have dof:Rn F X 129 0 [ny f src ids rows] (·=gD (gW ns) E):=⟨_,qF,rfl⟩;have e:=al8 hx h1 h5;have rg:=ZD (X:=X) hx;rw[<-e] at rg;have af8:=XW h1;have hNl:(gW ns).length<=1000000:=by rw[(oN ns).length_eq];exact h3
 have Rl:∀n,n∈gW ns↔n∈NS ar ⟨f,src,ids,rows,0,⟨[],[],[]⟩⟩:=fun n=>by rw[e,zP]
 have YT:∀n,n∈gW ns↔_:=fun n=>(oN ns).mem_iff.trans (h5 n)
 generalize gW ns=N at*;have e1:∀e∈E,e.1∈N:=fun e he=>(YT _).2 (.inr ⟨e,(h6 e).1 he,.inl Y⟩)
 have Ia:(ES ar ⟨f,src,ids,rows,0,⟨[],[],[]⟩⟩).length<=1000000:=by
  have hn:=hf.n;have:=so (f:=fun p=>rE ar (eo (⟨f,src,ids,rows,0,⟨[],[],[]⟩⟩:Cx) p)) (l:=f.comps.zipIdx) (m:=172840) fun p hp=>by have:=VX (hx.at hp);omega
  rw[List.length_zipIdx] at this;exact xH this (by have:=xD 172840 (show f.comps.length<=3 by omega);omega)
 have H:EH N E (ES ar ⟨f,src,ids,rows,0,⟨[],[],[]⟩⟩):=⟨⟨hNl,af8,h4,e1,fun e he=>(YT _).2 (.inr ⟨e,(h6 e).1 he,.inr Y⟩)⟩,fun n hn=>aD5 ((Rl n).1 hn),Ia,fun n=>Tf (XW (aV2 h2 n)) (Ca _ [] .nil).1 fun m=>by rw[(oN _).mem_iff,zP,aY3,aY3,h6,aP0 hx],List.eq_nil_iff_forall_not_mem.2 fun m hm=>by
  have:(7:Int)<=2:=aM7 hx ((Rl _).1 (e1 _ (aY3.1 hm))) rfl;omega⟩
 refine wr Y<|wg 1 Y<|Wp.ig (f:=8) rfl aw rfl<|wl Y mk rfl ?_;dsimp only [ui.d,dj.r,c_,n_];exact wg 1 Y<|wl Y dof rfl<|wl Y rg rfl<|wo Y (au (rW N))<|wj (ed1 H N [] rfl)
end
end Go.Proofs.YthicpeihkkokmaaGreatDoor
