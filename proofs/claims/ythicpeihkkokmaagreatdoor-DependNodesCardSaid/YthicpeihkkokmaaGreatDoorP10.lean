/- What these functions answer. -/
import Derived.Test.YthicpeihkkokmaaGreatDoorP9
import Derived.Test.YthicpeihkkokmaaGreatDoorP8
import Derived.Test.YthicpeihkkokmaaGreatDoorX11
import Derived.KernelRfl
set_option linter.unusedVariables false
set_option linter.unusedSimpArgs false
namespace Go.Proofs.YthicpeihkkokmaaGreatDoor
open Go.Ex Go.RowKit Go.Sort Go.Fl
section
variable{ar:rQ}{x:Cx}
theorem WE{ns:Jv}{m:Nd}:m∈eo [] ns↔m∈ns:=((GL ns [] .nil).2.1 m).trans P6
theorem bq6(hx:eM ar x){s t:aq}(h: .wr t∈rm x.cm.aT s):∃v,cw x.vn t=some v:=by
 obtain⟨k,hd,es,th,el,hr,hk⟩:=GR hx h;exact hr.1 hk
theorem ac0(hx:eM ar x){v:List Hn}(hv:v∈x.cm.aT){h:Hn}(hh:h∈v):∃k,(gI ar x.i)[k]? =some h.name/\hN ar x.i h.name=⟨5,(x.i:Nat),(k:Nat)⟩:=by
 obtain⟨k,al,aQ,hk,e⟩:=(D0 hx hv hh).nm;refine⟨k,?_,by rw[e];exact En hx aQ hk⟩;rw[Bf aQ,e,aP,xx,List.getElem?_range hk];rfl
theorem bv6(hx:eM ar x){k:Nat}{s:aq}(h:(gI ar x.i)[k]? =some s):hN ar x.i s=⟨5,(x.i:Nat),(k:Nat)⟩/\∃v∈x.cm.aT,∃h∈v,h.name=s:=by
 obtain⟨_,ints,tables,al,h1,h2,h3,h4,h5,h6,h7,⟨v0,o3,e0⟩,h9⟩:=hx.f.comps _ _ hx.c;rw[Bf h4] at h;have hk:=iR h;rw[Gx] at hk;rw[aP,xx,List.getElem?_range hk] at h;obtain rfl:nm 104 k=s:=xC h;have lS:k<v0.length:=PT
 exact⟨En hx h4 hk,v0,o3,v0[k],List.getElem_mem lS,((h9 v0 o3).2.2 k _ (xc lS)).name⟩
theorem Zy{x:Cx}{e:Nd×Nd}:e∈cE ar x↔∃v∈x.cm.aT,∃h∈v,∃a∈St.ch h.body,e∈rH ar x (hN ar x.i h.name) a:=by
 unfold cE hE;simp only [List.mem_flatMap,List.mem_flatten];constructor
 ·rintro⟨h,⟨v,hv,hh⟩,r⟩;exact⟨v,hv,h,hh,r⟩
 ·rintro⟨v,hv,h,hh,r⟩;exact⟨h,⟨v,hv,hh⟩,r⟩
theorem Qt{t:aq}:∀{l:Mm} {v:Nat},cw l t=some v->v<l.length
 |[],_,h=>nomatch h
 |a::l,v,h=>by
  have h:(if a=t then some 0 else(cw l t).map (· +1))=some v:=h;split at h
  ·cases h;exact Nat.succ_pos _
  ·obtain⟨w,h1,rfl⟩:=xp.1 h;exact Nat.succ_lt_succ (Qt h1)
theorem KK(hx:eM ar x){k:Nat}{s:aq}(h:(gI ar x.i)[k]? =some s){n:Nd}(hn:n∈gN x (s,k)):n∈z5 ar x:=by
 unfold z5;exact List.mem_append_right _ (List.mem_flatMap.2 ⟨(s,k),List.mem_zipIdx_iff_getElem?.2 h,hn⟩)
theorem Y6{t:aq}{v:Nat}(h:cw x.vn t=some v):(⟨1,(x.i:Nat),(v:Nat)⟩:Nd)∈(List.range x.cm.vars.length).map (fun v=>(⟨1,(x.i:Nat),(v:Nat)⟩:Nd)):=by
 have:=Qt h;unfold Cx.vn at this;rw[xm] at this;exact xJ.2 ⟨v,List.mem_range.2 this,rfl⟩
theorem bi2(hx:vL ar x){n:Nd}:n∈NS ar x↔n∈fN ar x\/∃e∈fE ar x,n=e.1\/n=e.2:=by
 have inE:∀{p:Cm×Nat},p∈x.f.comps.zipIdx->∀{e:Nd×Nd},e∈cE ar (eK x p)->e∈fE ar x:=fun hp _ he=>List.mem_flatMap.2 ⟨_,hp,he⟩
 have Cy:∀{p:Cm×Nat},p∈x.f.comps.zipIdx->∀{m:Nd},m∈z5 ar (eK x p)->m∈NS ar x:=fun hp _ hm=>List.mem_append_right _ (List.mem_flatMap.2 ⟨_,hp,hm⟩)
 constructor
 ·intro h;rcases xF.1 h with h|h
  ·exact .inl (List.mem_append_left _ h)
  ·obtain⟨p,hp,h⟩:=List.mem_flatMap.1 h;have hc:=hx.at hp;rcases xF.1 h with h|h
   ·exact .inl (List.mem_append_right _ (List.mem_flatMap.2 ⟨p,hp,List.mem_append_left _ h⟩))
   ·obtain⟨⟨s,k⟩,hs,h⟩:=List.mem_flatMap.1 h;obtain⟨e1,v,hv,hn,hh,rfl⟩:=bv6 hc (List.mem_zipIdx_iff_getElem?.1 hs);have q:=HP (eK x p) hn.name;have TI:∀{a:Us},a∈rm (eK x p).cm.aT hn.name->∀{e:Nd×Nd},e∈rH ar (eK x p) ⟨5,((eK x p).i:Nat),(k:Nat)⟩ a->n=e.1\/n=e.2->n∈fN ar x\/∃e∈fE ar x,n=e.1\/n=e.2:=fun{a} ha e he fy=>by
     obtain⟨v',gz,h',Ns,e2,hb⟩:=PS.1 ha;exact .inr ⟨e,inE hp (Zy.2 ⟨v',gz,h',Ns,a,hb,by rw[e2,e1];exact he⟩),fy⟩
    unfold gN at h;rw[xF,xF,xF] at h;rcases h with h|h|h|h
    ·obtain rfl:=xy.1 h;refine .inl (List.mem_append_right _ (List.mem_flatMap.2 ⟨p,hp,List.mem_append_right _ (xJ.2 ⟨hn,List.mem_flatten.2 ⟨v,hv,hh⟩,e1⟩)⟩))
    ·unfold dN at h;split at h
     ·rename_i hd;obtain rfl:=xy.1 h;exact TI ((q.D.1 hd).elim (fun h=>nomatch h) id) (e:=(⟨2,((eK x p).i:Nat),0⟩,⟨5,((eK x p).i:Nat),(k:Nat)⟩)) xn (.inl rfl)
     ·cases h
    ·obtain⟨t,ht,rfl⟩:=xJ.1 h;exact TI (((q.S t).1 ht).elim (fun h=>nomatch h) id) (e:=(⟨5,((eK x p).i:Nat),(k:Nat)⟩,sN (eK x p) t)) xn (.inr rfl)
    ·obtain⟨t,ht,rfl⟩:=xJ.1 h;exact TI (((q.T t).1 ht).elim (fun h=>nomatch h) id) (e:=(⟨5,((eK x p).i:Nat),(k:Nat)⟩,⟨3,((eK x p).i:Nat),0⟩)) xn (.inr rfl)
 ·rintro(h|⟨e,he,hn⟩)
  ·rcases xF.1 h with h|h
   ·exact List.mem_append_left _ h
   ·obtain⟨p,hp,h⟩:=List.mem_flatMap.1 h;have hc:=hx.at hp;rcases xF.1 h with h|h
    ·exact Cy hp (List.mem_append_left _ h)
    ·obtain⟨hn,hm,rfl⟩:=xJ.1 h;obtain⟨v,hv,hh⟩:=List.mem_flatten.1 hm;obtain⟨k,hk,e1⟩:=ac0 hc hv hh;exact Cy hp (KK hc hk (by rw[e1];exact List.mem_append_left _ (xy.2 rfl)))
  ·obtain⟨p,hp,he⟩:=List.mem_flatMap.1 he;have hc:=hx.at hp;obtain⟨v,hv,fy,hh,a,ha,he⟩:=Zy.1 he;obtain⟨k,hk,e1⟩:=ac0 hc hv hh;rw[e1] at he;have hu:a∈rm (eK x p).cm.aT fy.name:=PS.2 ⟨v,hv,fy,hh,rfl,ha⟩;have q:=HP (eK x p) fy.name;have hg:=hx.f.n;have ho:(⟨5,((eK x p).i:Nat),(k:Nat)⟩:Nd)∈NS ar x:=Cy hp (KK hc hk (List.mem_append_left _ (xy.2 rfl)));have gn:∀{m:Nd},m∈gN (eK x p) (fy.name,k)->m∈NS ar x:=fun hm=>Cy hp (KK hc hk hm)
   have to:∀{i al j},ar[i]? =some al->j<al.length->hN ar i (nm 104 j)∈NS ar x:=fun{i al j} aQ hj=>by
    have hi:=iR aQ;have CG:(x.f.comps[i]' PT,i)∈x.f.comps.zipIdx:=List.mem_zipIdx_iff_getElem?.2 (xc PT);have o7:=hx.at CG;rw[En o7 aQ hj];exact Cy CG (KK o7 (k:=j) (s:=nm 104 j) (by show(gI ar i)[j]? =_;rw[Bf aQ,aP,xx,List.getElem?_range hj];rfl) (List.mem_append_left _ (xy.2 rfl)))
   have th:∀{o y z:Nd},o∈NS ar x->y∈NS ar x->z∈NS ar x->e∈tR o y z->n∈NS ar x:=fun h1 h2 h3 h=>by
    unfold tR at h;simp only [xG,List.not_mem_nil,or_false] at h;rcases h with rfl|rfl|rfl<;>rcases hn with rfl|rfl<;>assumption
   cases a with
   |rd t=>
    obtain⟨m,hm,rfl⟩:=xJ.1 he;rcases hn with rfl|rfl
    ·unfold rN at hm;split at hm
     ·rename_i v hv;obtain rfl:=xy.1 hm;exact Cy hp (List.mem_append_left _ (Y6 hv))
     ·split at hm
      ·rename_i w hw;obtain rfl:=xy.1 hm;have:w<x.f.flags.length:=by
        have:=Qt hw;unfold Cx.fn at this;rw[xm] at this;exact this
       exact List.mem_append_left _ (xJ.2 ⟨w,List.mem_range.2 this,rfl⟩)
      ·cases hm
    ·exact ho
   |wr t=>
    obtain⟨v,hv⟩:=bq6 hc hu;obtain rfl:=xy.1 he;rcases hn with rfl|rfl
    ·exact ho
    ·refine Cy hp (List.mem_append_left _ ?_);have:=Y6 hv;unfold wN;rw[hv];exact this
   |dk=>
    have hd:(⟨2,((eK x p).i:Nat),0⟩:Nd)∈NS ar x:=gn (List.mem_append_right _ (List.mem_append_left _ (by unfold dN;rw[if_pos (q.D.2 (.inr hu))];exact xy.2 rfl)));have he:e=(⟨2,((eK x p).i:Nat),0⟩,⟨5,((eK x p).i:Nat),(k:Nat)⟩)\/e=(⟨5,((eK x p).i:Nat),(k:Nat)⟩,⟨2,((eK x p).i:Nat),0⟩):=by
     rcases xG.1 he with h|h
     ·exact .inl h
     ·exact .inr (xy.1 h)
    rcases he with rfl|rfl<;>rcases hn with rfl|rfl<;>assumption
   |sn t=>
    have h2:sN (eK x p) t∈NS ar x:=gn (List.mem_append_right _ (List.mem_append_right _ (List.mem_append_left _ (xJ.2 ⟨t,(q.S t).2 (.inr hu),rfl⟩))));have Uy:=GR hc hu;obtain⟨kk,nn,hd,es,th',el⟩:=t;obtain⟨⟨_,h4,_⟩,rfl⟩:=Uy;obtain⟨i,al,j,aQ,rfl,hj,rfl⟩:=h4 rfl;have e5:cN (eK x p) [(97+i).toUInt8]=i:=by unfold cN;rw[JQ hc.f (iR aQ)];rfl
    refine th ho h2 (to aQ hj) ?_;have he:e∈tR ⟨5,((eK x p).i:Nat),(k:Nat)⟩ (sN (eK x p) (.mk 6 [(97+i).toUInt8] (nm 104 j) es th' el)) (hN ar (cN (eK x p) [(97+i).toUInt8]) (nm 104 j)):=he;rw[e5] at he;exact he
   |tm t=>
    have h2:(⟨3,((eK x p).i:Nat),0⟩:Nd)∈NS ar x:=gn (List.mem_append_right _ (List.mem_append_right _ (List.mem_append_right _ (xJ.2 ⟨t,(q.T t).2 (.inr hu),rfl⟩))));have Uy:=GR hc hu;obtain⟨kk,nn,hd,es,th',el⟩:=t;obtain⟨⟨_,_,h4⟩,rfl⟩:=Uy;obtain⟨al,j,aQ,hj,rfl⟩:=h4 rfl;exact th ho h2 (to aQ hj) he
end
open Go.Ex Go.RowKit
noncomputable def HM(r:kG):Bool:=match r with|[.int .u8 (.ofNat n)]=>Nat.blt n 256|_=>false
noncomputable def OS(G:gj->Nat->Nat)(i:Nat)(ds:kG):Option (List D):=match i,ds with
 |114,[.sl rows]=>bs (Nat.ble rows.length 1000000&&rows.all HM) (some ((List.range 32).map fun k=> .int .u8 (G rows k))) none
 |_,_=>none
theorem aS6(G:gj->Nat->Nat):Es F (OS G) 100000 183 0 []=some [.bool true]:=by kernel_rfl
section
variable{X:fm}
theorem Zb(rows:gj):∃g:Nat->Nat,(Nat.ble rows.length 1000000&&rows.all HM)=true->run F X 114 0 [.sl rows]=some ((List.range 32).map fun k=> .int .u8 (g k)):=by
 cases h:Nat.ble rows.length 1000000&&rows.all HM with
 |false=>exact⟨fun _=>0,fun h=>(nomatch h)⟩
 |true=>
  rw[xf] at h;obtain⟨o,h1,h2⟩:=Za (X:=X) (rows:=rows) (by have:=xh h.1;omega) (fun r hr=>by
   have:=List.all_eq_true.1 h.2 r hr;unfold HM at this;split at this
   ·rename_i n;exact⟨_,rfl,n,rfl,xK (xh this) (xk 256)⟩
   ·cases this)
  obtain⟨e1,e2⟩:=h2.oV;have hg:∀k,∃n:Nat,k<o.length->o[k]? =some (.int .u8 n):=fun k=>by
   by_cases hk:k<o.length
   ·obtain⟨n,hn,_⟩:=e2 _ (List.getElem_mem hk);exact⟨n,fun _=>by rw[xc hk,hn];rfl⟩
   ·exact⟨0,fun h=>absurd h hk⟩
  refine⟨fun k=>(hg k).choose,fun _=>h1.trans (congrArg some (List.ext_getElem? fun k=> ?_))⟩;by_cases hk:k<o.length
  ·rw[(hg k).choose_spec hk,xx,List.getElem?_range PT];rfl
  ·rw[List.getElem?_eq_none PT,List.getElem?_eq_none (by rw[xm,List.length_range];omega)]
theorem aS5:Rn F X 183 0 [] (·=[.bool true]):=by
 refine⟨_,Pe (X:=X) (O:=OS fun rows=>(Zb (X:=X) rows).choose) (fun i ds o h=> ?_) _ _ _ _ _ (aS6 _),rfl⟩;unfold OS at h;split at h
 ·rename_i rows;cases hb:Nat.ble rows.length 1000000&&rows.all HM with
  |true=>
   rw[hb] at h;cases h;exact(Zb rows).choose_spec hb
  |false=>rw[hb] at h;cases h
 ·cases h
end
open Go.Ex Go.RowKit Go.Sort Go.Fl
section
variable{X:fm}{ar:rQ}{x:Cx}
theorem bf3{l:Jv}(hl:l.length<=1000000)(n:Nd):aL (.app 3 24) [.sl (Nd.rs l),.sl [n.r]]=some (.sl (Nd.rs (l++[n]))):=by
 have e:(Nd.rs l).length=l.length:=xm _;rw[gD (es:=3) (row:=n.r) rfl rfl PT PT];show some (D.sl (List.map Nd.r l++[n.r]))=some (D.sl (List.map Nd.r (l++[n])));rw[List.map_append];rfl
theorem an4{l:Jv}(hl:l.length<=1000000){a b:gj}:∀(aa pre:Jv),l=pre++aa->Rn F X 133 1 [.sl (Nd.rs pre),.sl (Nd.rs l),jD l.length,jD pre.length,.sl a,.sl b] (·=[.sl (Nd.rs l),.sl (Nd.rs l),.sl a,.sl b])
 |[],pre,hp=>by
  have aW:=nG hp;rw[xj] at hp;subst hp;exact wr rfl<|wn rfl ai<|wt rfl rfl
 |n::aa,pre,hp=>by
  have aW:=l6 hp;have ao:(Nd.rs l)[pre.length]? =some n.r:=qY hp;have ih:=an4 hl (a:=a) (b:=b) aa (pre++[n]) (lH hp);rw[xa] at ih;exact wr rfl<|wy rfl ai<|wo rfl (aA ao rfl)<|wg 3 rfl<|wo rfl (bf3 PT n)<|wo rfl oA<|wj ih
theorem aG8{l:Jv}(hl:l.length<=1000000){a b:gj}:Rn F X 133 0 [.sl (Nd.rs l),.sl a,.sl b] (·=[.sl (Nd.rs l),.sl (Nd.rs l),.sl a,.sl b]):=
 Rn.of (fd:=LR) (t:=bo4) rfl rfl rfl rfl (Wp.op rfl (az (xm _)) rfl (Wp.jump rfl (an4 hl l [] rfl)))
theorem bh3{k:Int}(h0:0<=k)(h1:k<=255):aL (.mv .u8) [.int .i64 k]=some (.int .u8 k):=by
 obtain⟨n,rfl⟩:∃n:Nat,k=n:=⟨k.toNat,PT⟩;exact yZ PT
theorem bJ8(m n:Nd):aL (.vI [.u8,.i64,.i64] true) [.agg m.r,.agg n.r]=some (.bool (!decide (m=n))):=by
 obtain⟨a,b,c⟩:=m;obtain⟨d,e,f⟩:=n;have:sU [.u8,.i64,.i64] (Nd.r ⟨a,b,c⟩) (Nd.r ⟨d,e,f⟩)=some (decide ((⟨a,b,c⟩:Nd)=⟨d,e,f⟩)):=by
  simp only [Nd.r,sU,and_self,if_true,Option.map_some,Nd.mk.injEq]
  congr 1
  rw[Bool.eq_iff_iff];simp only [xf,decide_eq_true_eq,Bool.and_true]
 show(sU [.u8,.i64,.i64] (Nd.r ⟨a,b,c⟩) (Nd.r ⟨d,e,f⟩)).map (fun r=>D.bool (r !=true))=_;rw[this];show some (D.bool (_ !=true))=_;rw[Bool.bne_true]
theorem Z9{l:Jv}(hl:l.length<=1000000)(hk:∀n∈l,0<=n.k/\n.k<=255):∀(aa pre:Jv),l=pre++aa->Rn F X 158 1 [.sl (Nd.rs l),.sl (fe l),jD l.length,jD pre.length] (·=[.bool true])
 |[],pre,hp=>by
  have aW:=nG hp;exact wr rfl<|wn rfl ai<|wt rfl rfl
 |n::aa,pre,hp=>by
  have aW:=l6 hp;have ao:(Nd.rs l)[pre.length]? =some n.r:=qY hp;have hn:=hk n (by rw[hp];simp);have ih:=Z9 hl hk aa (pre++[n]) (lH hp);rw[xa] at ih;exact wr rfl<|wy rfl ai<|wo rfl (aA (Ch hp) rfl)<|wg 1 rfl<|wo rfl (aA ao rfl)<|wg 1 rfl<|wo rfl (bh3 hn.1 hn.2)<|Wp.rG rfl (by rw[bJ8,decide_eq_true rfl];rfl)<|wo rfl oA<|wj ih
theorem aM3{l:Jv}(hl:l.length<=1000000)(hk:∀n∈l,0<=n.k/\n.k<=255):Rn F X 158 0 [.sl (Nd.rs l),.sl (fe l)] (·=[.bool true]):=
 Rn.of (fd:=LM) (t:=bo3) rfl rfl rfl rfl (Wp.op rfl (az (n:=l.length) (xm _)) rfl (Wp.op rfl (az (vX l)) rfl (Wp.rG (ds:=[jD l.length,jD l.length]) rfl (by rw[gP,decide_eq_false PT]) (Wp.op rfl (az (vX l)) rfl (Wp.jump rfl (Z9 hl hk l [] rfl))))))
theorem bd5{l:Jv}(h:l.Nodup):uk (iH l):=by
 have h1:=Qh l;have h2:(iH l).Nodup:=(sL l).nodup_iff.2 h;exact(h1.and h2).imp fun h=>by have:=Yx h.1 fun e=>h.2 e.symm;exact this
theorem aZ0{n:Nd}(h:n∈NS ar x):0<=n.k/\n.k<=255:=by
 have key:n.k=1\/n.k=2\/n.k=3\/n.k=4\/n.k=5\/n.k=6:=by
  rcases xF.1 h with h|h
  ·obtain⟨v,_,rfl⟩:=xJ.1 h;exact .inr (.inr (.inr (.inl rfl)))
  ·obtain⟨p,_,h⟩:=List.mem_flatMap.1 h;rcases xF.1 h with h|h
   ·obtain⟨v,_,rfl⟩:=xJ.1 h;exact .inl rfl
   ·obtain⟨q,_,h⟩:=List.mem_flatMap.1 h;unfold gN at h;rw[xF,xF,xF] at h;rcases h with h|h|h|h
    ·obtain rfl:=xy.1 h;exact .inr (.inr (.inr (.inr (.inl rfl))))
    ·unfold dN at h;split at h
     ·obtain rfl:=xy.1 h;exact .inr (.inl rfl)
     ·cases h
    ·obtain⟨t,_,rfl⟩:=xJ.1 h;exact .inr (.inr (.inr (.inr (.inr rfl))))
    ·obtain⟨t,_,rfl⟩:=xJ.1 h;exact .inr (.inr (.inl rfl))
 omega
theorem aN5(hx:vL ar x){l:Jv}(hd:l.Nodup)(hm:∀n,n∈l↔n∈fN ar x\/∃e∈fE ar x,n=e.1\/n=e.2):iH l=eo [] (NS ar x):=
 bd6 (bd5 hd) (GL _ [] .nil).1 fun n=>by
  rw[(sL l).mem_iff,hm,<-bi2 hx,WE]
theorem av0(p:vc):Rn F X 160 0 p.d (·=[.bool true]):=by
 have aw:=aS5 (X:=X);obtain⟨o,hq,f,ar,src,rows,ids,rfl,hf,hp,dR⟩:=aY4 (X:=X) p;have mk:Rn F X 108 0 p.d (·=nT f src ids rows::f.r):=⟨_,hq,rfl⟩;have hx:vL ar (⟨f,src,ids,rows,0,⟨[],[],[]⟩⟩:Cx):=⟨hf,hp,dR.len⟩;obtain⟨o2,pO,l,E,rfl,h1,h2,h3,h4,h5,h6⟩:=bn7 (X:=X) hx;have dof:Rn F X 129 0 [nT f src ids rows] (·=[.sl (Nd.rs (iH l)),.sl (nx E),.sl (nx (E.map z3))]):=⟨_,pO,rfl⟩;have e:=aN5 hx h1 h5;have hl:(iH l).length<=1000000:=by rw[(sL l).length_eq];exact h3
 have sm:=aM3 (X:=X) hl fun n hn=>aZ0 (WE.1 (e▸hn))
 have rg:=aE9 (X:=X) hx;rw[<-e] at rg;refine wr rfl<|Wp.jU (f:=8) rfl aw rfl<|wl rfl mk rfl ?_;dsimp only [vc.d,dg.r,List.cons_append,List.nil_append];refine wg 1 rfl<|wl rfl rg rfl<|wl rfl dof rfl<|wg 1 rfl ?_;dsimp only [List.cons_append,List.nil_append];exact wL rfl (aG8 hl) rfl<|wl rfl sm rfl<|wt rfl rfl
end
end Go.Proofs.YthicpeihkkokmaaGreatDoor
