/- What these functions answer. -/
import Derived.Test.YthicpeihkkokmaaGreatDoorP9
import Derived.Test.YthicpeihkkokmaaGreatDoorP8
import Derived.Test.YthicpeihkkokmaaGreatDoorX11
import Derived.KernelRfl
import Derived.Test.YthicpeihkkokmaaGreatDoorP6
set_option linter.unusedVariables false
set_option linter.unusedSimpArgs false
set_option maxHeartbeats 4000000
set_option maxRecDepth 100000
namespace Go.Proofs.YthicpeihkkokmaaGreatDoor
open Go.Ex Go.RowKit Go.Sort Go.Fl
variable{ar:a0f}{ns l out:a0m}{t:aq}{n:Nd}{X:a0a}{a b:a0b}{j:Nat}{p:D}{nd:Ex.Node}{ρ:a0g}{Q:a0d->Prop}
section
variable{x:Cx}
theorem WE{m:Nd}:m∈eo [] ns↔m∈ns:=((GL ns [] .nil).2.1 m).trans a0C
theorem bq6(hx:eM ar x){s:aq}(h: .wr t∈rm x.cm.aT s):∃v,cw x.vn t=some v:=by
 obtain⟨k,hd,es,th,el,hr,hk⟩:=GR hx h;exact hr.1 hk
theorem ac0(hx:eM ar x){v:List Hn}(hv:v∈x.cm.aT){h:Hn}(hh:h∈v):∃k,(gI ar x.i)[k]? =some h.name/\hN ar x.i h.name=⟨5,(x.i:Nat),(k:Nat)⟩:=by
 obtain⟨k,al,aQ,hk,e⟩:=(D0 hx hv hh).nm;refine⟨k,?_,by rw[e];exact En hx aQ hk⟩;rw[Bf aQ,e,aP,xx,List.getElem?_range hk];rfl
theorem bv6(hx:eM ar x){k:Nat}{s:aq}(h:(gI ar x.i)[k]? =some s):hN ar x.i s=⟨5,(x.i:Nat),(k:Nat)⟩/\∃v∈x.cm.aT,∃h∈v,h.name=s:=by
 obtain⟨_,ints,tables,al,h1,h2,h3,h4,h5,h6,h7,⟨v0,o3,e0⟩,h9⟩:=hx.f.comps _ _ hx.c;rw[Bf h4] at h;have hk:=iR h;rw[Gx] at hk;rw[aP,xx,List.getElem?_range hk] at h;obtain rfl:nm 104 k=s:=xC h;have lS:k<v0.length:=a0B
 exact⟨En hx h4 hk,v0,o3,v0[k],List.getElem_mem lS,((h9 v0 o3).2.2 k _ (xc lS)).name⟩
theorem Zy{x:Cx}{e:Nd×Nd}:e∈cE ar x↔∃v∈x.cm.aT,∃h∈v,∃a∈St.fm h.body,e∈rH ar x (hN ar x.i h.name) a:=by
 unfold cE hE;simp only [List.mem_flatMap,List.mem_flatten];constructor
 ·rintro⟨h,⟨v,hv,hh⟩,r⟩;exact⟨v,hv,h,hh,r⟩
 ·rintro⟨v,hv,h,hh,r⟩;exact⟨h,⟨v,hv,hh⟩,r⟩
theorem Qt:∀{l:a0s} {v:Nat},cw l t=some v->v<l.length
 |[],_,h=>nomatch h
 |a::l,v,h=>by
  have h:(if a=t then some 0 else(cw l t).map (· +1))=some v:=h;split at h
  ·cases h;exact Nat.succ_pos _
  ·obtain⟨w,h1,rfl⟩:=xp.1 h;exact Nat.succ_lt_succ (Qt h1)
theorem KK(hx:eM ar x){k:Nat}{s:aq}(h:(gI ar x.i)[k]? =some s)(hn:n∈gN x (s,k)):n∈z5 ar x:=by
 unfold z5;exact List.mem_append_right _ (List.mem_flatMap.2 ⟨(s,k),List.mem_zipIdx_iff_getElem?.2 h,hn⟩)
theorem Y6{v:Nat}(h:cw x.vn t=some v):(⟨1,(x.i:Nat),(v:Nat)⟩:Nd)∈(List.range x.cm.vars.length).map (fun v=>(⟨1,(x.i:Nat),(v:Nat)⟩:Nd)):=by
 have:=Qt h;unfold Cx.vn at this;rw[xm] at this;exact xJ.2 ⟨v,List.mem_range.2 this,rfl⟩
theorem bi2(hx:vL ar x):n∈NS ar x↔n∈fN ar x\/∃e∈fE ar x,n=e.1\/n=e.2:=by
 have inE:∀{p:Cm×Nat},p∈x.f.comps.zipIdx->∀{e:Nd×Nd},e∈cE ar (eK x p)->e∈fE ar x:=fun hp _ he=>List.mem_flatMap.2 ⟨_,hp,he⟩
 have Cy:∀{p:Cm×Nat},p∈x.f.comps.zipIdx->∀{m:Nd},m∈z5 ar (eK x p)->m∈NS ar x:=fun hp _ hm=>List.mem_append_right _ (List.mem_flatMap.2 ⟨_,hp,hm⟩)
 constructor
 ·intro h;rcases xF.1 h with h|h
  ·exact .inl (List.mem_append_left _ h)
  ·obtain⟨p,hp,h⟩:=List.mem_flatMap.1 h;have hc:=hx.at hp;rcases xF.1 h with h|h
   ·exact .inl (List.mem_append_right _ (List.mem_flatMap.2 ⟨p,hp,List.mem_append_left _ h⟩))
   ·obtain⟨⟨s,k⟩,hs,h⟩:=List.mem_flatMap.1 h;obtain⟨e1,v,hv,hn,hh,rfl⟩:=bv6 hc (List.mem_zipIdx_iff_getElem?.1 hs);have q:=HP (eK x p) hn.name;have TI:∀{a:Us},a∈rm (eK x p).cm.aT hn.name->∀{e:Nd×Nd},e∈rH ar (eK x p) ⟨5,((eK x p).i:Nat),(k:Nat)⟩ a->n=e.1\/n=e.2->n∈fN ar x\/∃e∈fE ar x,n=e.1\/n=e.2:=fun{a} ha e he fy=>by
     obtain⟨v',gz,h',Ns,e2,hb⟩:=PS.1 ha;exact .inr ⟨e,inE hp (Zy.2 ⟨v',gz,h',Ns,a,hb,by rw[e2,e1];exact he⟩),fy⟩
    unfold gN at h;rw[xF,xF,xF] at h;rcases h with h|h|h|h
    ·obtain rfl:=xy.1 h;refine .inl (List.mem_append_right _ (List.mem_flatMap.2 ⟨p,hp,List.mem_append_right _ (xJ.2 ⟨hn,List.mem_flatten.2 ⟨v,hv,hh⟩,e1⟩)⟩))
    ·unfold dN at h;split at h
     ·rename_i hd;obtain rfl:=xy.1 h;exact TI ((q.D.1 hd).elim (fun h=>nomatch h) id) (e:=(⟨2,((eK x p).i:Nat),0⟩,⟨5,((eK x p).i:Nat),(k:Nat)⟩)) xn (.inl Y)
     ·cases h
    ·obtain⟨t,ht,rfl⟩:=xJ.1 h;exact TI (((q.S t).1 ht).elim (fun h=>nomatch h) id) (e:=(⟨5,((eK x p).i:Nat),(k:Nat)⟩,sN (eK x p) t)) xn (.inr Y)
    ·obtain⟨t,ht,rfl⟩:=xJ.1 h;exact TI (((q.T t).1 ht).elim (fun h=>nomatch h) id) (e:=(⟨5,((eK x p).i:Nat),(k:Nat)⟩,⟨3,((eK x p).i:Nat),0⟩)) xn (.inr Y)
 ·rintro(h|⟨e,he,hn⟩)
  ·rcases xF.1 h with h|h
   ·exact List.mem_append_left _ h
   ·obtain⟨p,hp,h⟩:=List.mem_flatMap.1 h;have hc:=hx.at hp;rcases xF.1 h with h|h
    ·exact Cy hp (List.mem_append_left _ h)
    ·obtain⟨hn,hm,rfl⟩:=xJ.1 h;obtain⟨v,hv,hh⟩:=List.mem_flatten.1 hm;obtain⟨k,hk,e1⟩:=ac0 hc hv hh;exact Cy hp (KK hc hk (by rw[e1];exact List.mem_append_left _ (xy.2 rfl)))
  ·obtain⟨p,hp,he⟩:=List.mem_flatMap.1 he;have hc:=hx.at hp;obtain⟨v,hv,fy,hh,a,ha,he⟩:=Zy.1 he;obtain⟨k,hk,e1⟩:=ac0 hc hv hh;rw[e1] at he;have hu:a∈rm (eK x p).cm.aT fy.name:=PS.2 ⟨v,hv,fy,hh,rfl,ha⟩;have q:=HP (eK x p) fy.name;have hg:=hx.f.n;have ho:(⟨5,((eK x p).i:Nat),(k:Nat)⟩:Nd)∈NS ar x:=Cy hp (KK hc hk (List.mem_append_left _ (xy.2 rfl)));have gn:∀{m:Nd},m∈gN (eK x p) (fy.name,k)->m∈NS ar x:=fun hm=>Cy hp (KK hc hk hm)
   have to:∀{i al j},ar[i]? =some al->j<al.length->hN ar i (nm 104 j)∈NS ar x:=fun{i al j} aQ hj=>by
    have hi:=iR aQ;have CG:(x.f.comps[i]' a0B,i)∈x.f.comps.zipIdx:=List.mem_zipIdx_iff_getElem?.2 (xc a0B);have o7:=hx.at CG;rw[En o7 aQ hj];exact Cy CG (KK o7 (k:=j) (s:=nm 104 j) (by show(gI ar i)[j]? =_;rw[Bf aQ,aP,xx,List.getElem?_range hj];rfl) (List.mem_append_left _ (xy.2 rfl)))
   have th:∀{o y z:Nd},o∈NS ar x->y∈NS ar x->z∈NS ar x->e∈tR o y z->n∈NS ar x:=fun h1 h2 h3 h=>by
    unfold tR at h;simp only [xG,List.not_mem_nil,or_false] at h;rcases h with rfl|rfl|rfl<;>rcases hn with rfl|rfl<;>assumption
   cases a with
   |rd t=>
    obtain⟨m,hm,rfl⟩:=xJ.1 he;rcases hn with rfl|rfl
    ·unfold rN at hm;split at hm
     ·rename_i v hv;obtain rfl:=xy.1 hm;exact Cy hp (List.mem_append_left _ (Y6 hv))
     ·split at hm
      ·rename_i w hw;obtain rfl:=xy.1 hm;have:w<x.f.flags.length:=by
        have:=Qt hw;unfold Cx.fn at this;rw[xm] at this;exact this
       exact List.mem_append_left _ (xJ.2 ⟨w,List.mem_range.2 this,rfl⟩)
      ·cases hm
    ·exact ho
   |wr t=>
    obtain⟨v,hv⟩:=bq6 hc hu;obtain rfl:=xy.1 he;rcases hn with rfl|rfl
    ·exact ho
    ·refine Cy hp (List.mem_append_left _ ?_);have:=Y6 hv;unfold wN;rw[hv];exact this
   |dk=>
    have hd:(⟨2,((eK x p).i:Nat),0⟩:Nd)∈NS ar x:=gn (List.mem_append_right _ (List.mem_append_left _ (by unfold dN;rw[i_ (q.D.2 (.inr hu))];exact xy.2 rfl)));have he:e=(⟨2,((eK x p).i:Nat),0⟩,⟨5,((eK x p).i:Nat),(k:Nat)⟩)\/e=(⟨5,((eK x p).i:Nat),(k:Nat)⟩,⟨2,((eK x p).i:Nat),0⟩):=by
     rcases xG.1 he with h|h
     ·exact .inl h
     ·exact .inr (xy.1 h)
    rcases he with rfl|rfl<;>rcases hn with rfl|rfl<;>assumption
   |sn t=>
    have h2:sN (eK x p) t∈NS ar x:=gn (List.mem_append_right _ (List.mem_append_right _ (List.mem_append_left _ (xJ.2 ⟨t,(q.S t).2 (.inr hu),rfl⟩))));have Uy:=GR hc hu;obtain⟨kk,nn,hd,es,th',el⟩:=t;obtain⟨⟨_,h4,_⟩,rfl⟩:=Uy;obtain⟨i,al,j,aQ,rfl,hj,rfl⟩:=h4 rfl;have e5:cN (eK x p) [(97+i).toUInt8]=i:=by unfold cN;rw[JQ hc.f (iR aQ)];rfl
    refine th ho h2 (to aQ hj) ?_;have he:e∈tR ⟨5,((eK x p).i:Nat),(k:Nat)⟩ (sN (eK x p) (.mk 6 [(97+i).toUInt8] (nm 104 j) es th' el)) (hN ar (cN (eK x p) [(97+i).toUInt8]) (nm 104 j)):=he;rw[e5] at he;exact he
   |tm t=>
    have h2:(⟨3,((eK x p).i:Nat),0⟩:Nd)∈NS ar x:=gn (List.mem_append_right _ (List.mem_append_right _ (List.mem_append_right _ (xJ.2 ⟨t,(q.T t).2 (.inr hu),rfl⟩))));have Uy:=GR hc hu;obtain⟨kk,nn,hd,es,th',el⟩:=t;obtain⟨⟨_,_,h4⟩,rfl⟩:=Uy;obtain⟨al,j,aQ,hj,rfl⟩:=h4 rfl;exact th ho h2 (to aQ hj) he
end
open Go.Ex Go.RowKit
noncomputable def HM(r:a0d):Bool:=match r with|[.int .u8 (.ofNat n)]=>Nat.blt n 256|_=>false
noncomputable def OS(G:a0b->Nat->Nat)(i:Nat)(ds:a0d):Option (List D):=match i,ds with
 |114,[.sl rows]=>bs (Nat.ble rows.length 1000000&&rows.all HM) (some ((List.range 32).map fun k=> .int .u8 (G rows k))) none
 |_,_=>none
theorem aS6(G:a0b->Nat->Nat):Es F (OS G) 100000 183 0 []=some [.bool true]:=by kernel_rfl
section
theorem Zb(rows:a0b):∃g:Nat->Nat,(Nat.ble rows.length 1000000&&rows.all HM)=true->run F X 114 0 [.sl rows]=some ((List.range 32).map fun k=> .int .u8 (g k)):=by
 cases h:Nat.ble rows.length 1000000&&rows.all HM with
 |false=>exact⟨fun _=>0,fun h=>(nomatch h)⟩
 |true=>
  rw[xf] at h;obtain⟨o,h1,h2⟩:=Za (X:=X) (rows:=rows) (by have:=xh h.1;omega) (fun r hr=>by
   have:=List.all_eq_true.1 h.2 r hr;unfold HM at this;split at this
   ·rename_i n;exact⟨_,rfl,n,rfl,xK (xh this) (xk 256)⟩
   ·cases this)
  obtain⟨e1,e2⟩:=h2.oV;have hg:∀k,∃n:Nat,k<o.length->o[k]? =some (.int .u8 n):=fun k=>by
   by_cases hk:k<o.length
   ·obtain⟨n,hn,_⟩:=e2 _ (List.getElem_mem hk);exact⟨n,fun _=>by rw[xc hk,hn];rfl⟩
   ·exact⟨0,fun h=>absurd h hk⟩
  refine⟨fun k=>(hg k).choose,fun _=>h1.trans (congrArg some (List.ext_getElem? fun k=> ?_))⟩;by_cases hk:k<o.length
  ·rw[(hg k).choose_spec hk,xx,List.getElem?_range a0B];rfl
  ·rw[List.getElem?_eq_none a0B,List.getElem?_eq_none (by rw[xm,List.length_range];omega)]
theorem aS5:Rn F X 183 0 [] (·=[.bool true]):=by
 refine⟨_,Pe (X:=X) (O:=OS fun rows=>(Zb (X:=X) rows).choose) (fun i ds o h=> ?_) _ _ _ _ _ (aS6 _),rfl⟩;unfold OS at h;split at h
 ·rename_i rows;cases hb:Nat.ble rows.length 1000000&&rows.all HM with
  |true=>
   rw[hb] at h;cases h;exact(Zb rows).choose_spec hb
  |false=>rw[hb] at h;cases h
 ·cases h
end
open Go.Ex Go.RowKit Go.Sort Go.Fl
section
variable{x:Cx}
theorem bf3(hl:l.length<=1000000)(n:Nd):aL (.app 3 24) [.sl (Nd.rs l),.sl [n.r]]=some (.sl (Nd.rs (l++[n]))):=by
 have e:(Nd.rs l).length=l.length:=xm _;rw[gD (es:=3) (row:=n.r) rfl rfl a0B a0B];show some (D.sl (List.map Nd.r l++[n.r]))=some (D.sl (List.map Nd.r (l++[n])));rw[List.map_append];rfl
theorem bh3{k:Int}(h0:0<=k)(h1:k<=255):aL (.mv .u8) [.int .i64 k]=some (.int .u8 k):=by
 obtain⟨n,rfl⟩:∃n:Nat,k=n:=⟨k.toNat,a0B⟩;exact yZ a0B
theorem bJ8(m n:Nd):aL (.vI [.u8,.i64,.i64] true) [.agg m.r,.agg n.r]=some (.bool (!decide (m=n))):=by
 obtain⟨a,b,c⟩:=m;obtain⟨d,e,f⟩:=n;have:sU [.u8,.i64,.i64] (Nd.r ⟨a,b,c⟩) (Nd.r ⟨d,e,f⟩)=some (decide ((⟨a,b,c⟩:Nd)=⟨d,e,f⟩)):=by
  simp only [Nd.r,sU,and_self,if_true,Option.map_some,Nd.mk.injEq]
  congr 1
  rw[Bool.eq_iff_iff];simp only [xf,decide_eq_true_eq,Bool.and_true]
 show(sU [.u8,.i64,.i64] (Nd.r ⟨a,b,c⟩) (Nd.r ⟨d,e,f⟩)).map (fun r=>D.bool (r !=true))=_;rw[this];show some (D.bool (_ !=true))=_;rw[Bool.bne_true]
theorem Z9(hl:l.length<=1000000)(hk:∀n∈l,0<=n.k/\n.k<=255):∀(aa V:a0m),l=V++aa->Rn F X 158 1 [.sl (Nd.rs l),.sl (fe l),jD l.length,jD V.length] (·=[.bool true])
 |[],V,hp=>by
  have aW:=nG hp;exact wr Y<|wn Y ai<|wt Y Y
 |n::aa,V,hp=>by
  have aW:=l6 hp;have ao:(Nd.rs l)[V.length]? =some n.r:=qY hp;have hn:=hk n (by rw[hp];simp);have ih:=Z9 hl hk aa (V++[n]) (lH hp);rw[xa] at ih;exact wr Y<|wy Y ai<|wo Y (aA (Ch hp) rfl)<|wg 1 Y<|wo Y (aA ao Y)<|wg 1 Y<|wo Y (bh3 hn.1 hn.2)<|Wp.rG Y (by rw[bJ8,u_ rfl];rfl)<|wo Y oA<|wj ih
theorem aM3(hl:l.length<=1000000)(hk:∀n∈l,0<=n.k/\n.k<=255):Rn F X 158 0 [.sl (Nd.rs l),.sl (fe l)] (·=[.bool true]):=
 Rn.of (fd:=LM) (t:=bo3) rfl rfl rfl rfl (e_ Y (az (n:=l.length) (xm _)) rfl (e_ Y (az (vX l)) rfl (Wp.rG (ds:=[jD l.length,jD l.length]) rfl (by rw[gP,f_ a0B]) (e_ Y (az (vX l)) rfl (b_ Y (Z9 hl hk l [] rfl))))))
theorem bd5(h:l.Nodup):uk (iH l):=by
 have h1:=Qh l;have h2:(iH l).Nodup:=(sL l).nodup_iff.2 h;exact(h1.and h2).imp fun h=>by have:=Yx h.1 fun e=>h.2 e.symm;exact this
theorem aZ0(h:n∈NS ar x):0<=n.k/\n.k<=255:=by
 have key:n.k=1\/n.k=2\/n.k=3\/n.k=4\/n.k=5\/n.k=6:=by
  rcases xF.1 h with h|h
  ·obtain⟨v,_,rfl⟩:=xJ.1 h;exact .inr (.inr (.inr (.inl Y)))
  ·obtain⟨p,_,h⟩:=List.mem_flatMap.1 h;rcases xF.1 h with h|h
   ·obtain⟨v,_,rfl⟩:=xJ.1 h;exact .inl Y
   ·obtain⟨q,_,h⟩:=List.mem_flatMap.1 h;unfold gN at h;rw[xF,xF,xF] at h;rcases h with h|h|h|h
    ·obtain rfl:=xy.1 h;exact .inr (.inr (.inr (.inr (.inl Y))))
    ·unfold dN at h;split at h
     ·obtain rfl:=xy.1 h;exact .inr (.inl Y)
     ·cases h
    ·obtain⟨t,_,rfl⟩:=xJ.1 h;exact .inr (.inr (.inr (.inr (.inr Y))))
    ·obtain⟨t,_,rfl⟩:=xJ.1 h;exact .inr (.inr (.inl Y))
 omega
theorem aN5(hx:vL ar x)(hd:l.Nodup)(hm:∀n,n∈l↔n∈fN ar x\/∃e∈fE ar x,n=e.1\/n=e.2):iH l=eo [] (NS ar x):=
 bd6 (bd5 hd) (GL _ [] .nil).1 fun n=>by
  rw[(sL l).mem_iff,hm,<-bi2 hx,WE]
end
structure RC where
 k:Nat
 a:Int
 b:Int
 n:Int
 tick:Int
 d:Int
 args:List Int
variable{V aa:List RC}{c:RC}
def rK(l:List Int):a0b:=l.map fun x=>[.int .i64 x]
def RC.dd(c:RC):a0d:=[bD c.k,.int .i64 c.a,.int .i64 c.b,.int .i64 c.n,.int .i64 c.tick,.int .i64 c.d,.sl (rK c.args)]
def gj(l:List RC):a0b:=l.map RC.dd
theorem qG(l:List RC):(gj l).length=l.length:=xm _
theorem S3(l:List RC)(c:RC):gj l++[c.dd]=gj (l++[c]):=Gy RC.dd l c
theorem ay0{l:List RC}(hl:l.length<=100)(c:RC):aL (.app 7 72) [.sl (gj l),.sl [c.dd]]=some (.sl (gj (l++[c]))):=by
 have e:=qG l;rw[gD (es:=7) (row:=c.dd) rfl rfl a0B a0B,S3]
theorem Jv{l:List RC}{a:RC}(h:l=V++a::aa):aL (.qK 0 7 true) [.sl (gj l),jD V.length]=some (.agg a.dd):=by
 show((gj l)[V.length]?).bind (fun r=>yX r 0 7 true)=_;rw[show(gj l)[V.length]? =some a.dd from qY h];rfl
def j6(c:RC)(n:Nd):Bool:=
 if c.k=1 then n=⟨5,c.a,c.b⟩ else if c.k=2 then n=⟨4,c.a,0⟩ else if c.k=3 then n.k=5/\n.a=c.a
 else if c.k=4 then(n.k=1\/n.k=3)/\n.a=c.a else if c.k=5\/c.k=6\/c.k=7 then n=⟨6,c.a,c.b⟩
 else if c.k=8 then n=⟨2,c.a,0⟩ else if c.k=9 then n=⟨3,c.a,0⟩ else false
theorem D5(n:Nd)(h:(c.k:Int)=1):j6 c n=decide (n=⟨5,c.a,c.b⟩):=by unfold j6;(repeat' split)<;>first|rfl|omega
theorem Dz(n:Nd)(h:(c.k:Int)=2):j6 c n=decide (n=⟨4,c.a,0⟩):=by unfold j6;(repeat' split)<;>first|rfl|omega
theorem zg(n:Nd)(h:(c.k:Int)=3):j6 c n=decide (n.k=5/\n.a=c.a):=by unfold j6;(repeat' split)<;>first|rfl|omega
theorem zb(n:Nd)(h:(c.k:Int)=4):j6 c n=decide ((n.k=1\/n.k=3)/\n.a=c.a):=by unfold j6;(repeat' split)<;>first|rfl|omega
theorem rQ(n:Nd)(h:(c.k:Int)=5\/(c.k:Int)=6\/(c.k:Int)=7):j6 c n=decide (n=⟨6,c.a,c.b⟩):=by unfold j6;(repeat' split)<;>first|rfl|omega
theorem Dy(n:Nd)(h:(c.k:Int)=8):j6 c n=decide (n=⟨2,c.a,0⟩):=by unfold j6;(repeat' split)<;>first|rfl|omega
theorem Dx(n:Nd)(h:(c.k:Int)=9):j6 c n=decide (n=⟨3,c.a,0⟩):=by unfold j6;(repeat' split)<;>first|rfl|omega
theorem Na(n:Nd)(h: ¬((c.k:Int)=1\/(c.k:Int)=2\/(c.k:Int)=3\/(c.k:Int)=4\/(c.k:Int)=5\/(c.k:Int)=6\/(c.k:Int)=7\/(c.k:Int)=8\/(c.k:Int)=9)):j6 c n=false:=by unfold j6;(repeat' split)<;>first|rfl|omega
theorem wm(m n:Nd):aL (.vI [.u8,.i64,.i64] false) [.agg m.r,.agg n.r]=some (.bool (decide (m=n))):=by
 obtain⟨a,b,c⟩:=m;obtain⟨d,e,f⟩:=n;have:sU [.u8,.i64,.i64] (Nd.r ⟨a,b,c⟩) (Nd.r ⟨d,e,f⟩)=some (decide ((⟨a,b,c⟩:Nd)=⟨d,e,f⟩)):=by
  simp only [Nd.r,sU,and_self,if_true,Option.map_some,Nd.mk.injEq]
  congr 1
  rw[Bool.eq_iff_iff];simp only [xf,decide_eq_true_eq,Bool.and_true]
 show(sU [.u8,.i64,.i64] (Nd.r ⟨a,b,c⟩) (Nd.r ⟨d,e,f⟩)).map (fun r=>D.bool (r !=false))=_;rw[this];show some (D.bool (_ !=false))=_;rw[Bool.bne_false]
theorem uo(m n:Nd):aL (.vI [.i64,.i64,.i64] false) [.agg m.q,.agg n.q]=some (.bool (decide (m=n))):=by
 obtain⟨a,b,c⟩:=m;obtain⟨d,e,f⟩:=n;have:sU [.i64,.i64,.i64] (Nd.q ⟨a,b,c⟩) (Nd.q ⟨d,e,f⟩)=some (decide ((⟨a,b,c⟩:Nd)=⟨d,e,f⟩)):=by
  simp only [Nd.q,sU,and_self,if_true,Option.map_some,Nd.mk.injEq]
  congr 1
  rw[Bool.eq_iff_iff];simp only [xf,decide_eq_true_eq,Bool.and_true]
 show(sU [.i64,.i64,.i64] (Nd.q ⟨a,b,c⟩) (Nd.q ⟨d,e,f⟩)).map (fun r=>D.bool (r !=false))=_;rw[this];show some (D.bool (_ !=false))=_;rw[Bool.bne_false]
section
abbrev tZ(c:RC):a0d:=[bD c.k,.int .i64 c.a,.int .i64 c.b,.int .i64 c.n]
theorem UB(hl:l.length<=1000000)(ho:out.length<=1000000)(hj:j<=1000000)(n:Nd)(c:RC){s:a0e}
 (next:Rn F X 137 1 ([.sl (Nd.rs (out++[n])),.sl (Nd.rs l),jD l.length,jD (j+1),.sl a,.sl b]++tZ c) Q):
 Wp F X 137 (.note nd (.op (.cP 3 1) [cd 11,cd 12,cd 13] (.op (.app 3 24) [cd 0,cd 14] (.op (.bin .add 0) [cd 3,.int .i64 1] (.jump 1 0 ρ s [cd 15,cd 1,cd 2,cd 16,cd 4,cd 5,cd 6,cd 7,cd 8,cd 9])))))
  [.sl (Nd.rs out),.sl (Nd.rs l),jD l.length,jD j,.sl a,.sl b,bD c.k,.int .i64 c.a,.int .i64 c.b,.int .i64 c.n,p,.int .u8 n.k,.int .i64 n.a,.int .i64 n.b] Q:=by
 exact wg 2 Y<|wo Y (bf3 ho n)<|wo Y oA<|wj next
theorem S4(hj:j<=1000000)(n:Nd)(c:RC){s:a0e}
 (next:Rn F X 137 1 ([.sl (Nd.rs out),.sl (Nd.rs l),jD l.length,jD (j+1),.sl a,.sl b]++tZ c) Q):
 Wp F X 137 (.op (.bin .add 0) [cd 3,.int .i64 1] (.jump 1 0 ρ s [cd 0,cd 1,cd 2,cd 14,cd 4,cd 5,cd 6,cd 7,cd 8,cd 9]))
  [.sl (Nd.rs out),.sl (Nd.rs l),jD l.length,jD j,.sl a,.sl b,bD c.k,.int .i64 c.a,.int .i64 c.b,.int .i64 c.n,p,.int .u8 n.k,.int .i64 n.a,.int .i64 n.b] Q:=
 e_ Y (bm (b:=1) a0B) rfl (b_ Y next)
theorem Mm{p:Nd->Bool}(V:a0m)(n:Nd):(V++[n]).filter p=if p n then V.filter p++[n] else V.filter p:=by
 rw[List.filter_append];cases h:p n<;>simp[h]
theorem Qg(hl:l.length<=1000000)(c:RC):∀(aa V:a0m),l=V++aa->Rn F X 137 1 ([.sl (Nd.rs (V.filter (j6 c))),.sl (Nd.rs l),jD l.length,jD V.length,.sl a,.sl b]++tZ c) (·=[.sl (Nd.rs (l.filter (j6 c))),.sl (Nd.rs l),.sl a,.sl b]++tZ c)
 |[],V,hp=>by
  have aW:=nG hp;rw[xj] at hp;subst hp;exact wr Y<|wn Y ai<|wt Y Y
 |n::aa,V,hp=>by
  have aW:=l6 hp;have ao:(Nd.rs l)[V.length]? =some n.r:=qY hp;have ih:=Qg hl c aa (V++[n]) (lH hp);rw[xa,Mm] at ih;have ho:(V.filter (j6 c)).length<=1000000:=xH (List.length_filter_le _ _) a0B;have Db:j6 c n=true->Rn F X 137 1 ([.sl (Nd.rs (V.filter (j6 c)++[n])),.sl (Nd.rs l),jD l.length,jD (V.length+1),.sl a,.sl b]++tZ c) (·=[.sl (Nd.rs (l.filter (j6 c))),.sl (Nd.rs l),.sl a,.sl b]++tZ c):=fun h=>by
   rw[i_ h] at ih;exact ih
  have skip:j6 c n=false->Rn F X 137 1 ([.sl (Nd.rs (V.filter (j6 c))),.sl (Nd.rs l),jD l.length,jD (V.length+1),.sl a,.sl b]++tZ c) (·=[.sl (Nd.rs (l.filter (j6 c))),.sl (Nd.rs l),.sl a,.sl b]++tZ c):=fun h=>by
   rw[j_ (by rw[h];exact Bool.false_ne_true)] at ih;exact ih
  clear ih;have H:=fun h {nd ρ s p}=>UB (X:=X) hl ho (j:=V.length) a0B n c (p:=p) (nd:=nd) (ρ:=ρ) (s:=s) (Db h)
  have S:=fun h {ρ s p}=>S4 (X:=X) (out:=V.filter (j6 c)) (j:=V.length) a0B n c (p:=p) (ρ:=ρ) (s:=s) (skip h)
  refine wr Y<|wy Y ai<|wo Y (aA ao Y)<|wg 1 Y ?_;clear Db skip;dsimp only [c_,n_];refine d_ Y ay (fun h1=>Wp.br Y (wm n ⟨5,c.a,c.b⟩) (fun e=>H ((D5 n a0B).trans e)) (fun e=>S ((D5 n a0B).trans e))) fun h1=>d_ Y ay (fun h2=>Wp.br Y (wm n ⟨4,c.a,0⟩) (fun e=>H ((Dz n a0B).trans e)) (fun e=>S ((Dz n a0B).trans e))) fun h2=>d_ Y ay (fun h3=>d_ Y ay (fun g=>d_ Y ay (fun g2=>H ((zg n a0B).trans (u_ ⟨g,g2⟩))) fun g2=>S ((zg n a0B).trans (f_ fun q=>g2 q.2))) fun g=>S ((zg n a0B).trans (f_ fun q=>g q.1))) fun h3=>d_ Y ay (fun h4=>d_ Y ay (fun g=>d_ Y ay (fun g2=>H ((zb n a0B).trans (u_ ⟨.inl g,g2⟩))) fun g2=>S ((zb n a0B).trans (f_ fun q=>g2 q.2))) fun g=>d_ Y ay (fun g3=>d_ Y ay (fun g2=>H ((zb n a0B).trans (u_ ⟨.inr g3,g2⟩))) fun g2=>S ((zb n a0B).trans (f_ fun q=>g2 q.2))) fun g3=>S ((zb n a0B).trans (f_ fun q=>q.1.elim g g3))) fun h4=>d_ Y ay (fun h5=>Wp.br Y (wm n ⟨6,c.a,c.b⟩) (fun e=>H ((rQ n a0B).trans e)) (fun e=>S ((rQ n a0B).trans e))) fun h5=>d_ Y ay (fun h6=>Wp.br Y (wm n ⟨6,c.a,c.b⟩) (fun e=>H ((rQ n a0B).trans e)) (fun e=>S ((rQ n a0B).trans e))) fun h6=>d_ Y ay (fun h7=>Wp.br Y (wm n ⟨6,c.a,c.b⟩) (fun e=>H ((rQ n a0B).trans e)) (fun e=>S ((rQ n a0B).trans e))) fun h7=>d_ Y ay (fun h8=>Wp.br Y (wm n ⟨2,c.a,0⟩) (fun e=>H ((Dy n a0B).trans e)) (fun e=>S ((Dy n a0B).trans e))) fun h8=>d_ Y ay (fun h9=>Wp.br Y (wm n ⟨3,c.a,0⟩) (fun e=>H ((Dx n a0B).trans e)) (fun e=>S ((Dx n a0B).trans e))) fun h9=> ?_
  exact S (Na n a0B)
theorem RZ(hl:l.length<=1000000)(c:RC):Rn F X 139 0 ([.sl (Nd.rs l),.sl a,.sl b]++c.dd) (·=[.sl (Nd.rs (l.filter (j6 c))),.sl (Nd.rs l),.sl a,.sl b]):=by
 have h:Rn F X 137 0 ([.sl (Nd.rs l),.sl a,.sl b]++tZ c) (·=[.sl (Nd.rs (l.filter (j6 c))),.sl (Nd.rs l),.sl a,.sl b]++tZ c):=
  Rn.of (fd:=Jp) (t:=VW) rfl rfl rfl rfl (e_ Y (az (xm _)) rfl (b_ Y (Qg hl c l [] rfl)))
 exact wr Y<|wl Y h rfl<|wt Y Y
end
theorem Nc{l:List RC}{a:RC}(h:l=V++a::aa):(gj l)[V.length]? =some a.dd:=qY h
theorem MC(l:List Int):(rK l).length=l.length:=xm _
theorem N2{a b:Nat}:aL .mn [jD a,jD b]=some (jD (min a b)):=by
 show some (D.int .i64 (if(b:Int)<(a:Int) then(b:Int) else(a:Int)))=_
 congr 2
 split<;>omega
theorem U3{l:List Int}{b:Nat}(h:b<=l.length):aL (.qk 1) [.sl (rK l),jD 0,jD b]=some (.sl (rK (l.take b))):=by
 rw[nw (by rw[MC];exact h)];unfold rK;rw[List.map_take]
theorem U4{l:List Int}(h:l.length<=100000):aL (.app 1 8) [.sl [],.sl (rK l)]=some (.sl (rK l)):=Bb (rows:=[]) (q:=rK l) (fun row hr=>by obtain⟨x,_,rfl⟩:=xJ.1 hr;exact⟨rfl,rfl⟩) (by simp[rK];omega) (by simp[rK];omega)
theorem Nx{c a b:Nat}(h:a+b<=255):aL (.bin .add c) [bD a,bD b]=some (bD (a+b)):=by
 show some (D.int .u8 (gG .u8 ((a:Int)+(b:Int))))=_;rw[lW,IntWalk.u8_in _ a0B];rfl
theorem Ua{c:Nat}{k:xO}{a:Int}{b:Nat}(h:1<=b):aL (.bin .rem c) [.int k a,.int k (b:Nat)]=some (.int k (Int.tmod a b)):=by
 show ofInt (bs (dA k k) (rX .rem k a b) none)=_;rw[AL];show ofInt (bs (mo (b:Int) 0) none (some (.int k (Int.tmod a b))))=_;rw[oG,f_ a0B];rfl
section
theorem Vx{a:Int}{n:Nat}(h1:1<=n)(h2:n<=100000):Rn F X 154 0 [.int .i64 a,jD n] (fun o=>∃m,m<n/\o=[jD m]):=by
 have l1:=Int.tmod_lt_of_pos a (b:=(n:Int)) a0B;have l2:=Int.lt_tmod_of_pos a (b:=(n:Int)) a0B;obtain⟨m,hm⟩:∃m:Nat,Int.tmod a n+n=m:=⟨(Int.tmod a n+n).toNat,a0B⟩;refine wr Y<|wo Y (Ua h1)<|wo Y oI ?_;rw[hm];exact wo Y (mG _ h1)<|wt Y ⟨m%n,Nat.mod_lt _ h1,rfl⟩
theorem Wp.mod{i f:Nat}{env:a0d}{us:a0e}{t e:DT}{a:Int}{n:Nat}(h1:aI (aZ (lk env)) us=some [.int .i64 a,jD n])(h2:1<=n)(h3:n<=100000)(h:∀m,m<n->Wp F X i t (env++[jD m]) Q):Wp F X i (.call f 154 us [none] t e) env Q:=
 Wp.bA4 h1 (Vx h2 h3) fun o ⟨m,hm,ho⟩=>by subst ho;exact⟨rfl,h m hm⟩
def yy(m:Nat)(o:a0d):Prop:=∃l:List RC,o=[.sl (gj l)]/\l.length<=m
abbrev tS(c:RC):a0d:=[bD c.k,.int .i64 c.a,.int .i64 c.b,.int .i64 c.n]
theorem Yu(c d:RC):Rn F X 155 0 (tS c++tS d) (fun o=>∃b,o=[.bool b]):=by
 refine wr Y ?_;have L:∀{k:xO} {x y:Int} {i j:Nat} {env:a0d} {a b:xM},aI (bR (lk env)) [a,b]=some [.int k x,.int k y]->Wp F X 155 (.br (.bin .lss 0) [a,b] (.ret [] [.bool true] [.bool true]) (.ret [] [.bool false] [.bool false])) env (fun o=>∃b,o=[.bool b]):=fun h=>Wp.aG h ai (fun _=>wt Y ⟨_,rfl⟩) (fun _=>wt Y ⟨_,rfl⟩)
 exact d_ Y gP (fun _=>L (i:=0) (j:=0) rfl) fun _=>d_ Y gP (fun _=>L (i:=0) (j:=0) rfl) fun _=>d_ Y gP (fun _=>L (i:=0) (j:=0) rfl) fun _=>L (i:=0) (j:=0) rfl
theorem Qo(x y:RC):aL (.vI [.u8,.i64,.i64,.i64] false) [.agg (tS x),.agg (tS y)]=some (.bool (decide (x.k=y.k/\x.a=y.a/\x.b=y.b/\x.n=y.n))):=by
 have:sU [.u8,.i64,.i64,.i64] (tS x) (tS y)=some (decide (x.k=y.k/\x.a=y.a/\x.b=y.b/\x.n=y.n)):=by
  simp only [tS,sU,and_self,if_true,Option.map_some]
  congr 1
  rw[Bool.eq_iff_iff];simp only [xf,decide_eq_true_eq,Bool.and_true];omega
 show(sU [.u8,.i64,.i64,.i64] (tS x) (tS y)).map (fun r=>D.bool (r !=false))=_;rw[this];show some (D.bool (_ !=false))=_;rw[Bool.bne_false]
section
variable{l out:List RC}{i:Nat}{m:Nat}(hi:i+1<=100)(hl:l.length<=100)(ho:out.length<=100)
include hi ho
theorem Kx(H:∀r:List RC,r.length<=out.length+1->Rn F X 156 1 [.sl (gj r),.sl (gj l),jD l.length,jD (i+1)] Q):∀(aa V nx:List RC),out=V++aa->nx.length<=V.length+1->
 Rn F X 156 3 ([.sl (gj nx),.sl (gj l),jD l.length,jD i,.sl (gj out),jD out.length,jD V.length]++c.dd) Q
 |[],V,nx,hp,hn=>by
  have aW:=nG hp;exact wr Y<|wn Y ai<|wo Y (bm (a:=i) (b:=1) a0B)<|b_ Y (H nx a0B)
 |x::aa,V,nx,hp,hn=>by
  have aW:=l6 hp;have next:=Kx H aa (V++[x]) (nx++[x]) (lH hp) (by rw[xa,xa];omega);rw[xa (a:=V)] at next;have ry:aL .jf [.sl (gj out),jD V.length]=some (.bool (decide (V.length<out.length))):=qH (qG _);refine wr Y<|wy Y ai<|wy Y ry<|Wp.aV Y (Jv hp) rfl ?_;refine Wp.br Y (Qo x c) (fun _=> ?_) (fun _=> ?_)<;>
   exact wg 2 Y<|wo Y (ay0 a0B x)<|wo Y (bm (a:=V.length) (b:=1) a0B)<|wj next
theorem N'(H:∀r:List RC,r.length<=out.length+1->Rn F X 156 1 [.sl (gj r),.sl (gj l),jD l.length,jD (i+1)] Q):∀(aa V:List RC),out=V++aa->
 Rn F X 156 2 ([.sl (gj V),.sl (gj l),jD l.length,jD i,.sl (gj out),jD out.length,jD V.length]++c.dd) Q
 |[],V,hp=>by
  have aW:=nG hp;exact wr Y<|wn Y ai<|wg 2 Y<|wo Y (ay0 a0B c)<|wo Y (bm (a:=i) (b:=1) a0B)<|b_ Y (H (V++[c]) (by rw[xa];simp;omega))
 |x::aa,V,hp=>by
  have aW:=l6 hp;have ry:aL .jf [.sl (gj out),jD V.length]=some (.bool (decide (V.length<out.length))):=qH (qG _);refine wr Y<|wy Y ai<|wy Y ry<|Wp.aV Y (Jv hp) rfl<|Wp.br Y (Qo x c) (fun _=> ?_) (fun _=> ?_)
  ·have next:=Kx (X:=X) (c:=c) hi ho H aa (V++[x]) (V++[x]) (lH hp) a0B;rw[xa] at next;exact wg 2 Y<|wo Y (ay0 a0B x)<|wo Y (bm (a:=V.length) (b:=1) a0B)<|wj next
  ·refine wg 1 Y ?_;obtain⟨_,hq,b,rfl⟩:=Yu (X:=X) c x;have cl:Rn F X 155 0 (tS c++tS x) (·=[.bool b]):=⟨_,hq,rfl⟩;cases b with
   |true=>
    have next:=Kx (X:=X) (c:=c) hi ho H aa (V++[x]) (V++[c]++[x]) (lH hp) (by rw[xa,xa,xa];simp);rw[xa (b:=[x]) (a:=V)] at next;exact wL Y cl rfl<|wg 2 Y<|wo Y (ay0 a0B c)<|wg 2 Y<|wo Y (ay0 (by rw[xa];simp;omega) x)<|wo Y (bm (a:=V.length) (b:=1) a0B)<|wj next
   |false=>
    have next:=N' H aa (V++[x]) (lH hp);rw[xa] at next;exact wL Y cl rfl<|wg 2 Y<|wo Y (ay0 a0B x)<|wo Y (bm (a:=V.length) (b:=1) a0B)<|wj next
omit hi ho
theorem OQ(hl:l.length<=50):∀(aa V bJ:List RC),l=V++aa->bJ.length<=V.length->Rn F X 156 1 [.sl (gj bJ),.sl (gj l),jD l.length,jD V.length] (yy l.length)
 |[],V,bJ,hp,ha=>by
  have aW:=nG hp;exact wr Y<|wn Y ai<|wt Y ⟨bJ,rfl,a0B⟩
 |c::aa,V,bJ,hp,ha=>by
  have aW:=l6 hp;have s2:=N' (X:=X) (c:=c) (l:=l) (i:=V.length) (out:=bJ) (Q:=yy l.length) a0B a0B (fun r hr=>by
   have:=OQ hl aa (V++[c]) r (lH hp) (by rw[xa];simp;omega);rw[xa] at this;exact this) bJ [] rfl
  exact wr Y<|wy Y ai<|wo Y (aA (Nc hp) rfl)<|wg 1 Y<|wo Y (az (n:=bJ.length) (qG _))<|wj s2
theorem SH(hl:l.length<=50):Rn F X 156 0 [.sl (gj l)] (yy l.length):=
 Rn.of (fd:=Bk) (t:=VI) rfl rfl rfl rfl (e_ Y (az (n:=l.length) (qG _)) rfl (b_ Y (OQ hl l [] [] rfl (xk _))))
end
theorem RI{raw:List RC}:Rn F X 157 0 [.sl (gj raw),jD 10] (yy 10):=by
 have fin:∀(bJ:List RC),bJ.length<=10->Rn F X 156 0 [.sl (gj bJ)] (yy 10):=fun bJ h1=>Rn.mono (SH (X:=X) a0B) fun o ⟨l,h2,h3⟩=>⟨l,h2,xH h3 h1⟩
 have loop:∀(aa V:List RC) (bJ:List RC),raw=V++aa->bJ.length=V.length->V.length<=10->Rn F X 157 1 [.sl (gj raw),jD 10,.sl (gj bJ),jD V.length] (yy 10):=by
  intro aa
  induction aa with
  |nil=>
   intro V bJ hp ha U7;rw[xj] at hp;have hp':V.length=raw.length:=by rw[hp]
   have Lu:=fin bJ a0B;refine wr Y<|wo Y (az (n:=raw.length) (qG _))<|wn Y ai<|wg 1 Y<|wx Y Lu ?_;rintro _ ⟨l,rfl,hl⟩;exact⟨rfl,wt Y ⟨l,rfl,hl⟩⟩
  |cons x aa ih=>
   intro V bJ hp ha U7;have aD:=bG hp;have ao:=Nc hp;refine wr Y<|wo Y (az (n:=raw.length) (qG _))<|wy Y ai ?_;by_cases bk:V.length<10
   ·have next:∀c:RC,Rn F X 157 1 [.sl (gj raw),jD 10,.sl (gj (bJ++[c])),jD (V.length+1)] (yy 10):=by
     intro c;have h:=ih (V++[x]) (bJ++[c]) (by rw[hp,bw]) (by rw[xa,xa,ha];rfl) (by rw[xa,show[x].length=1 from Y];omega);rw[xa,show[x].length=1 from Y] at h;exact h
    refine wy Y ai<|wo Y (aA ao Y)<|wg 1 Y ?_;dsimp only [eA,Ex.r,St.r,c_,n_,lh,lg,k9,kZ,kY,RC.dd];refine wo Y (Np _ 9 a0B)<|wo Y (Nx (b:=9) a0B)<|wo Y (Np _ 9 a0B)<|wo Y (Nx (a:=1) a0B) ?_;dsimp only [eA,Ex.r,St.r,c_,n_,lh,lg,k9,kZ,kY];generalize gU:1+(x.k%9+9)%9=kk;have hk:kk=1\/kk=2\/kk=3\/kk=4\/kk=5\/kk=6\/kk=7\/kk=8\/kk=9:=a0B
    clear ih hp;rcases hk with rfl|rfl|rfl|rfl|rfl|rfl|rfl|rfl|rfl
    ·refine wg 1 Y<|Wp.mod (n:=3) rfl a0B a0B (fun m hm=> ?_);refine wg 1 Y<|Wp.mod (n:=4) rfl a0B a0B (fun m hm=> ?_);refine wy Y ay<|wg 1 Y<|Wp.mod (n:=3) rfl a0B a0B (fun m hm=> ?_);refine wg 1 Y<|Wp.mod (n:=13) rfl a0B a0B (fun m hm=> ?_);dsimp only [eA,Ex.r,St.r,c_,n_,lh,lg,k9,kZ,kY];refine wo Y (az (n:=x.args.length) (MC _))<|wo Y (N2 (b:=2))<|wo Y (U3 (Nat.min_le_left _ _))<|wg 1 Y<|wo Y (U4 (by rw[xz];omega)) ?_;dsimp only [eA,Ex.r,St.r,c_,n_,lh,lg,k9,kZ,kY];exact wg 2 Y<|wo Y (ay0 (c:=⟨_,_,_,_,_,_,_⟩) a0B)<|wo Y oA<|b_ Y (next _)
    ·refine wg 1 Y<|Wp.mod (n:=3) rfl a0B a0B (fun m hm=> ?_);refine wg 1 Y<|Wp.mod (n:=4) rfl a0B a0B (fun m hm=> ?_);refine wn Y ay<|wy Y ay<|wg 1 Y<|Wp.mod (n:=13) rfl a0B a0B (fun m hm=> ?_);refine wg 1 Y<|Wp.mod (n:=2) rfl a0B a0B (fun m hm=> ?_);dsimp only [eA,Ex.r,St.r,c_,n_,lh,lg,k9,kZ,kY];exact wg 2 Y<|wo Y (ay0 (c:=⟨_,_,_,_,_,_,[]⟩) a0B)<|wo Y oA<|b_ Y (next _)
    ·refine wg 1 Y<|Wp.mod (n:=3) rfl a0B a0B (fun m hm=> ?_);refine wg 1 Y<|Wp.mod (n:=4) rfl a0B a0B (fun m hm=> ?_);refine wn Y ay<|wn Y ay<|wy Y ay<|wg 1 Y<|Wp.mod (n:=13) rfl a0B a0B (fun m hm=> ?_);refine wg 1 Y<|Wp.mod (n:=3) rfl a0B a0B (fun m hm=> ?_);dsimp only [eA,Ex.r,St.r,c_,n_,lh,lg,k9,kZ,kY];refine wo Y (bm (a:=1) a0B)<|wg 2 Y<|wo Y (ay0 (c:=⟨_,_,_,_,_,_,[]⟩) a0B)<|wo Y oA ?_;dsimp only [eA,Ex.r,St.r,c_,n_,lh,lg,k9,kZ,kY];exact b_ Y (next _)
    ·refine wg 1 Y<|Wp.mod (n:=3) rfl a0B a0B (fun m hm=> ?_);refine wg 1 Y<|Wp.mod (n:=4) rfl a0B a0B (fun m hm=> ?_);refine wn Y ay<|wn Y ay<|wn Y ay<|wy Y ay<|wg 1 Y<|Wp.mod (n:=13) rfl a0B a0B (fun m hm=> ?_);refine wg 2 Y ?_;dsimp only [eA,Ex.r,St.r,c_,n_,lh,lg,k9,kZ,kY];exact wo Y (ay0 (c:=⟨_,_,_,_,_,_,[]⟩) a0B)<|wo Y oA<|b_ Y (next _)
    ·refine wg 1 Y<|Wp.mod (n:=3) rfl a0B a0B (fun m hm=> ?_);refine wg 1 Y<|Wp.mod (n:=4) rfl a0B a0B (fun m hm=> ?_);refine wn Y ay<|wn Y ay<|wn Y ay<|wn Y ay<|wy Y ay<|wg 1 Y<|Wp.mod (n:=3) rfl a0B a0B (fun m hm=> ?_);refine wg 2 Y ?_;dsimp only [eA,Ex.r,St.r,c_,n_,lh,lg,k9,kZ,kY];exact wo Y (ay0 (c:=⟨_,_,_,_,_,_,[]⟩) a0B)<|wo Y oA<|b_ Y (next _)
    ·refine wg 1 Y<|Wp.mod (n:=3) rfl a0B a0B (fun m hm=> ?_);refine wg 1 Y<|Wp.mod (n:=4) rfl a0B a0B (fun m hm=> ?_);refine wn Y ay<|wn Y ay<|wn Y ay<|wn Y ay<|wn Y ay<|wy Y ay<|wg 1 Y<|Wp.mod (n:=3) rfl a0B a0B (fun m hm=> ?_);refine wg 1 Y<|Wp.mod (n:=5) rfl a0B a0B (fun m hm=> ?_);dsimp only [eA,Ex.r,St.r,c_,n_,lh,lg,k9,kZ,kY];refine wo Y (bm (a:=1) a0B)<|wg 2 Y<|wo Y (ay0 (c:=⟨_,_,_,_,_,_,[]⟩) a0B)<|wo Y oA ?_;dsimp only [eA,Ex.r,St.r,c_,n_,lh,lg,k9,kZ,kY];exact b_ Y (next _)
    ·refine wg 1 Y<|Wp.mod (n:=3) rfl a0B a0B (fun m hm=> ?_);refine wg 1 Y<|Wp.mod (n:=4) rfl a0B a0B (fun m hm=> ?_);refine wn Y ay<|wn Y ay<|wn Y ay<|wn Y ay<|wn Y ay<|wn Y ay<|wy Y ay<|wg 1 Y<|Wp.mod (n:=3) rfl a0B a0B (fun m hm=> ?_);refine wg 1 Y<|Wp.mod (n:=4) rfl a0B a0B (fun m hm=> ?_);dsimp only [eA,Ex.r,St.r,c_,n_,lh,lg,k9,kZ,kY];exact wg 2 Y<|wo Y (ay0 (c:=⟨_,_,_,_,_,_,[]⟩) a0B)<|wo Y oA<|b_ Y (next _)
    ·refine wg 1 Y<|Wp.mod (n:=3) rfl a0B a0B (fun m hm=> ?_);refine wg 1 Y<|Wp.mod (n:=4) rfl a0B a0B (fun m hm=> ?_);refine wn Y ay<|wn Y ay<|wn Y ay<|wn Y ay<|wn Y ay<|wn Y ay<|wn Y ay<|wn Y ay<|wg 2 Y<|wo Y (ay0 (c:=⟨_,_,_,_,_,_,[]⟩) a0B) ?_;dsimp only [eA,Ex.r,St.r,c_,n_,lh,lg,k9,kZ,kY];exact wo Y oA<|b_ Y (next _)
    ·refine wg 1 Y<|Wp.mod (n:=3) rfl a0B a0B (fun m hm=> ?_);refine wg 1 Y<|Wp.mod (n:=4) rfl a0B a0B (fun m hm=> ?_);refine wn Y ay<|wn Y ay<|wn Y ay<|wn Y ay<|wn Y ay<|wn Y ay<|wn Y ay<|wy Y ay<|wg 1 Y<|Wp.mod (n:=5) rfl a0B a0B (fun m hm=> ?_);refine wo Y (bm (a:=1) a0B) ?_;dsimp only [eA,Ex.r,St.r,c_,n_,lh,lg,k9,kZ,kY];exact wg 2 Y<|wo Y (ay0 (c:=⟨_,_,_,_,_,_,[]⟩) a0B)<|wo Y oA<|b_ Y (next _)
   ·have Lu:=fin bJ a0B;refine wn Y ai<|wg 1 Y<|wx Y Lu ?_;rintro _ ⟨l,rfl,hl⟩;exact⟨rfl,wt Y ⟨l,rfl,hl⟩⟩
 have g:=loop raw [] [] rfl rfl (xL _);exact wr Y<|wj g
end
def kM(c:RC)(n:Nd):Bool:=if c.k=4 then n.k=1/\n.a=c.a\/n=⟨3,c.a,0⟩ else j6 c n
theorem yH(n:Nd)(h:(c.k:Int)=4):kM c n=decide (n.k=1/\n.a=c.a\/n=⟨3,c.a,0⟩):=by unfold kM;rw[i_ a0B]
theorem kG(n:Nd)(h: ¬(c.k:Int)=4):kM c n=j6 c n:=by unfold kM;rw[j_ a0B]
section
variable{x:Cx}
theorem R1(ns:a0m):(eo [] ns).length<=ns.length:=by have:=(GL ns [] .nil).2.2;simpa using this
theorem UO(ho:ns.length<=1000000)(hj:j<=1000000)(n:Nd)(c:RC){f:Nat}{s:a0e}{e:DT}
 (next:Rn F X 153 1 ([.sl (fe (eo [] (ns++[n]))),.sl (fe l),jD l.length,jD (j+1)]++c.dd) Q):
 Wp F X 153 (.note nd (.call f 142 [cd 0,cd 12,cd 13,cd 14] [none] (.op (.bin .add 0) [cd 3,.int .i64 1] (.jump 1 0 ρ s [cd 15,cd 1,cd 2,cd 16,cd 4,cd 5,cd 6,cd 7,cd 8,cd 9,cd 10])) e))
  [.sl (fe (eo [] ns)),.sl (fe l),jD l.length,jD j,bD c.k,.int .i64 c.a,.int .i64 c.b,.int .i64 c.n,.int .i64 c.tick,.int .i64 c.d,.sl (rK c.args),p,.int .i64 n.k,.int .i64 n.a,.int .i64 n.b] Q:=by
 rw[<-De] at next;exact Wp.note (Wp.jU Y (za (xH (R1 ns) ho) n) Y (e_ Y (bm (a:=j) (b:=1) a0B) Y (b_ Y next)))
theorem TL(hj:j<=1000000)(n:Nd)(c:RC){s:a0e}
 (next:Rn F X 153 1 ([.sl (fe (eo [] ns)),.sl (fe l),jD l.length,jD (j+1)]++c.dd) Q):
 Wp F X 153 (.op (.bin .add 0) [cd 3,.int .i64 1] (.jump 1 0 ρ s [cd 0,cd 1,cd 2,cd 15,cd 4,cd 5,cd 6,cd 7,cd 8,cd 9,cd 10]))
  [.sl (fe (eo [] ns)),.sl (fe l),jD l.length,jD j,bD c.k,.int .i64 c.a,.int .i64 c.b,.int .i64 c.n,.int .i64 c.tick,.int .i64 c.d,.sl (rK c.args),p,.int .i64 n.k,.int .i64 n.a,.int .i64 n.b] Q:=
 e_ Y (bm (b:=1) a0B) rfl (b_ Y next)
theorem rs1(hl:l.length<=1000000)(c:RC):∀(aa V:a0m),l=V++aa->Rn F X 153 1 ([.sl (fe (eo [] (V.filter (kM c)))),.sl (fe l),jD l.length,jD V.length]++c.dd) (·=[.sl (fe (eo [] (l.filter (kM c))))])
 |[],V,hp=>by
  have aW:=nG hp;rw[xj] at hp;subst hp;exact wr Y<|wn Y ai<|wt Y Y
 |n::aa,V,hp=>by
  have aW:=l6 hp;have ih:=rs1 hl c aa (V++[n]) (lH hp);rw[xa,Mm] at ih;have ho:(V.filter (kM c)).length<=1000000:=xH (List.length_filter_le _ _) a0B;have Db:kM c n=true->Rn F X 153 1 ([.sl (fe (eo [] (V.filter (kM c)++[n]))),.sl (fe l),jD l.length,jD (V.length+1)]++c.dd) (·=[.sl (fe (eo [] (l.filter (kM c))))]):=fun h=>by
   rw[i_ h] at ih;exact ih
  have skip:kM c n=false->Rn F X 153 1 ([.sl (fe (eo [] (V.filter (kM c)))),.sl (fe l),jD l.length,jD (V.length+1)]++c.dd) (·=[.sl (fe (eo [] (l.filter (kM c))))]):=fun h=>by
   rw[j_ (by rw[h];exact Bool.false_ne_true)] at ih;exact ih
  clear ih;have H:=fun h {nd f ρ s p e}=>UO (X:=X) ho (j:=V.length) a0B n c (p:=p) (nd:=nd) (f:=f) (ρ:=ρ) (s:=s) (e:=e) (Db h)
  have S:=fun h {ρ s p}=>TL (X:=X) (ns:=V.filter (kM c)) (j:=V.length) a0B n c (p:=p) (ρ:=ρ) (s:=s) (skip h)
  refine wr Y<|wy Y ai<|wo Y (aA (Ch hp) rfl)<|wg 1 Y ?_;clear Db skip;dsimp only [c_,n_];refine d_ Y ay (fun h1=>Wp.br Y (uo n ⟨5,c.a,c.b⟩) (fun e=>H ((kG n a0B).trans ((D5 n a0B).trans e))) (fun e=>S ((kG n a0B).trans ((D5 n a0B).trans e)))) fun h1=>d_ Y ay (fun h2=>Wp.br Y (uo n ⟨4,c.a,0⟩) (fun e=>H ((kG n a0B).trans ((Dz n a0B).trans e))) (fun e=>S ((kG n a0B).trans ((Dz n a0B).trans e)))) fun h2=>d_ Y ay (fun h3=>d_ Y ay (fun g=>d_ Y ay (fun g2=>H ((kG n a0B).trans ((zg n a0B).trans (u_ ⟨g,g2⟩)))) fun g2=>S ((kG n a0B).trans ((zg n a0B).trans (f_ fun q=>g2 q.2)))) fun g=>S ((kG n a0B).trans ((zg n a0B).trans (f_ fun q=>g q.1)))) fun h3=>d_ Y ay (fun h4=> ?_) fun h4=> ?_
  ·refine d_ Y ay (fun g=>d_ Y ay (fun g2=>H ((yH n a0B).trans (u_ (.inl ⟨g,g2⟩)))) fun g2=> ?_) fun g=> ?_
   ·exact Wp.br Y (uo n ⟨3,c.a,0⟩) (fun e=>H ((yH n a0B).trans (u_ (.inr (of_decide_eq_true e))))) fun e=>S ((yH n a0B).trans (f_ fun q=>q.elim (fun q=>g2 q.2) (of_decide_eq_false e)))
   ·exact Wp.br Y (uo n ⟨3,c.a,0⟩) (fun e=>H ((yH n a0B).trans (u_ (.inr (of_decide_eq_true e))))) fun e=>S ((yH n a0B).trans (f_ fun q=>q.elim (fun q=>g q.1) (of_decide_eq_false e)))
  refine d_ Y ay (fun h5=>Wp.br Y (uo n ⟨6,c.a,c.b⟩) (fun e=>H ((kG n a0B).trans ((rQ n a0B).trans e))) (fun e=>S ((kG n a0B).trans ((rQ n a0B).trans e)))) fun h5=>d_ Y ay (fun h6=>Wp.br Y (uo n ⟨6,c.a,c.b⟩) (fun e=>H ((kG n a0B).trans ((rQ n a0B).trans e))) (fun e=>S ((kG n a0B).trans ((rQ n a0B).trans e)))) fun h6=>d_ Y ay (fun h7=>Wp.br Y (uo n ⟨6,c.a,c.b⟩) (fun e=>H ((kG n a0B).trans ((rQ n a0B).trans e))) (fun e=>S ((kG n a0B).trans ((rQ n a0B).trans e)))) fun h7=>d_ Y ay (fun h8=>Wp.br Y (uo n ⟨2,c.a,0⟩) (fun e=>H ((kG n a0B).trans ((Dy n a0B).trans e))) (fun e=>S ((kG n a0B).trans ((Dy n a0B).trans e)))) fun h8=>d_ Y ay (fun h9=>Wp.br Y (uo n ⟨3,c.a,0⟩) (fun e=>H ((kG n a0B).trans ((Dx n a0B).trans e))) (fun e=>S ((kG n a0B).trans ((Dx n a0B).trans e)))) fun h9=> ?_
  exact S ((kG n a0B).trans (Na n a0B))
theorem QS(hl:l.length<=1000000)(c:RC)(f:dg):Rn F X 153 0 (f.r++[.sl (fe l)]++c.dd) (·=[.sl (fe (eo [] (l.filter (kM c))))]):=
 Rn.of (fd:=Hm) (t:=VV) rfl rfl rfl rfl (e_ Y (az (vX l)) rfl (b_ Y (rs1 hl c l [] rfl)))
theorem So(h:n∈NS ar x)(hk:n.k=3):n.b=0:=by
 rcases xF.1 h with h|h
 ·obtain⟨v,_,rfl⟩:=xJ.1 h;rfl
 ·obtain⟨p,_,h⟩:=List.mem_flatMap.1 h;rcases xF.1 h with h|h
  ·obtain⟨v,_,rfl⟩:=xJ.1 h;cases hk
  ·obtain⟨q,_,h⟩:=List.mem_flatMap.1 h;unfold gN at h;rw[xF,xF,xF] at h;rcases h with h|h|h|h
   ·obtain rfl:=xy.1 h;cases hk
   ·unfold dN at h;split at h
    ·obtain rfl:=xy.1 h;rfl
    ·cases h
   ·obtain⟨t,_,rfl⟩:=xJ.1 h;cases hk
   ·obtain⟨t,_,rfl⟩:=xJ.1 h;rfl
theorem Ss{L:a0m}(ha:uk L)(ht:∀n∈L,n.k=3->n.b=0)(c:RC):eo [] (L.filter (kM c))=L.filter (j6 c):=by
 have e:L.filter (kM c)=L.filter (j6 c):=List.filter_congr fun n hn=>by
  have h:=ht n hn;by_cases h4:c.k=4
  ·rw[yH n a0B,zb n a0B];obtain⟨k,a,b⟩:=n;simp only [Nd.mk.injEq] at h⊢;apply decide_eq_decide.2;constructor<;>intro<;>omega
  ·exact kG n a0B
 rw[e];exact bd6 (GL _ [] .nil).1 (List.Pairwise.sublist List.filter_sublist ha) fun n=>WE
theorem Qe{L:a0m}(hl:L.length<=1000000)(hk:∀n∈L,0<=n.k/\n.k<=255)(ha:uk L)(ht:∀n∈L,n.k=3->n.b=0){cs:List RC}(hc:cs.length<=100)(f:dg):
 ∀(aa V:List RC),cs=V++aa->Rn F X 164 1 ([.sl (fe L),.sl (gj cs),jD cs.length,jD V.length]++f.r++[.sl (Nd.rs L),.sl a,.sl b]) (·=[.bool true])
 |[],V,hp=>by
  have aW:=nG hp;exact wr Y<|wn Y ai<|wt Y Y
 |c::aa,V,hp=>by
  have aW:=l6 hp;have next:=Qe hl hk ha ht hc f aa (V++[c]) (lH hp);rw[xa] at next;have ry:aL .jf [.sl (gj cs),jD V.length]=some (.bool (decide (V.length<cs.length))):=qH (qG _);have so:=RZ (X:=X) hl c (a:=a) (b:=b);have ro:=QS (X:=X) hl c f;rw[Ss ha ht c] at ro;have sm:=aM3 (X:=X) (l:=L.filter (j6 c)) (xH (List.length_filter_le _ _) hl) fun n hn=>hk n (List.mem_filter.1 hn).1
  refine wr Y<|wy Y ai<|wy Y ry<|Wp.aV Y (Jv hp) rfl ?_;dsimp only [dg.r,c_,n_] at so ro next⊢;exact wl Y so rfl<|wl Y ro rfl<|wl Y sm rfl<|wo Y oA<|wj next
theorem QR(p:vc)(raw:List RC):Rn F X 164 0 (p.d++[.sl (gj raw)]) (·=[.bool true]):=by
 have aw:=aS5 (X:=X);obtain⟨o,hq,f,ar,src,rows,ids,rfl,hf,hp,dR⟩:=aY4 (X:=X) p;have mk:Rn F X 108 0 p.d (·=nT f src ids rows::f.r):=⟨_,hq,rfl⟩;have hx:vL ar (⟨f,src,ids,rows,0,⟨[],[],[]⟩⟩:Cx):=⟨hf,hp,dR.len⟩;obtain⟨o2,pO,l,E,rfl,h1,h2,h3,h4,h5,h6⟩:=bn7 (X:=X) hx;have dof:Rn F X 129 0 [nT f src ids rows] (·=[.sl (Nd.rs (iH l)),.sl (nx E),.sl (nx (E.map z3))]):=⟨_,pO,rfl⟩;have e:=aN5 hx h1 h5;have hl:(iH l).length<=1000000:=by rw[(sL l).length_eq];exact h3
 have rg:=aE9 (X:=X) hx;rw[<-e] at rg;obtain⟨_,hq3,cs,rfl,hc⟩:=RI (X:=X) (raw:=raw);have ch:Rn F X 157 0 [.sl (gj raw),jD 10] (·=[.sl (gj cs)]):=⟨_,hq3,rfl⟩;have lw:=Qe (X:=X) hl (fun n hn=>aZ0 (WE.1 (e▸hn))) (bd5 h1) (fun n hn=>So (WE.1 (e▸hn))) (cs:=cs++raw.take (min raw.length 5)) (by rw[xa,xz];omega) (a:=nx E) (b:=nx (E.map z3)) f _ [] rfl;have tX:aL (.qk 7) [.sl (gj raw),jD 0,jD (min raw.length 5)]=some (.sl (gj (raw.take (min raw.length 5)))):=by
  rw[nw (by rw[qG];exact Nat.min_le_left _ _)];unfold gj;rw[List.map_take]
 have ZD:aL (.app 7 72) [.sl (gj cs),.sl (gj (raw.take (min raw.length 5)))]=some (.sl (gj (cs++raw.take (min raw.length 5)))):=by
  have h7:(gj (raw.take (min raw.length 5))).length<=5:=by rw[qG,xz];omega
  have h8:(gj cs).length<=10:=by rw[qG];exact hc
  rw[Bb (fun row hr=>by obtain⟨c,_,rfl⟩:=xJ.1 hr;exact⟨rfl,rfl⟩) a0B a0B];unfold gj;rw[List.map_append]
 refine wr Y<|Wp.jU (f:=8) rfl aw rfl<|wl Y mk rfl ?_;dsimp only [vc.d,dg.r,c_,n_] at rg lw⊢;exact wg 1 Y<|wl Y dof rfl<|wl Y rg rfl<|wo Y (az (qG raw))<|wo Y N2<|wo Y tX<|wl Y ch rfl<|wg 1 Y<|wo Y ZD<|wo Y (az (qG _))<|wj lw
end
end Go.Proofs.YthicpeihkkokmaaGreatDoor
