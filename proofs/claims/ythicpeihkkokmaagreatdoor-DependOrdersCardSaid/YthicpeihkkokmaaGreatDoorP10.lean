/- What these functions answer. -/
import Derived.Test.YthicpeihkkokmaaGreatDoorP9
import Derived.Test.YthicpeihkkokmaaGreatDoorP8
import Derived.Test.YthicpeihkkokmaaGreatDoorX11
import Derived.KernelRfl
set_option linter.unusedVariables false
set_option linter.unusedSimpArgs false
set_option maxHeartbeats 4000000
set_option maxRecDepth 100000
namespace Go.Proofs.YthicpeihkkokmaaGreatDoor
open Go.Ex Go.RowKit Go.Sort Go.Fl
section
variable{ar:Dw}{x:Cx}
end
open Go.Ex Go.RowKit
noncomputable def GH(r:Di):Bool:=match r with|[.int .u8 (.ofNat n)]=>Nat.blt n 256|_=>false
noncomputable def OS(G:Ca->Nat->Nat)(i:Nat)(ds:Di):Option (List D):=match i,ds with
 |114,[.sl rows]=>bs (Nat.ble rows.length 1000000&&rows.all GH) (some ((List.range 32).map fun k=> .int .u8 (G rows k))) none
 |_,_=>none
theorem aJ8(G:Ca->Nat->Nat):Dk F (OS G) 100000 183 0 []=some [.bool true]:=by kernel_rfl
section
variable{X:Bv}
theorem X7(rows:Ca):∃g:Nat->Nat,(Nat.ble rows.length 1000000&&rows.all GH)=true->run F X 114 0 [.sl rows]=some ((List.range 32).map fun k=> .int .u8 (g k)):=by
 cases h:Nat.ble rows.length 1000000&&rows.all GH with
 |false=>exact⟨fun _=>0,fun h=>(nomatch h)⟩
 |true=>
  rw[xf] at h;obtain⟨o,h1,h2⟩:=X6 (X:=X) (rows:=rows) (by have:=xh h.1;omega) (fun r hr=>by
   have:=List.all_eq_true.1 h.2 r hr;unfold GH at this;split at this
   ·rename_i n;exact⟨_,rfl,n,rfl,xK (xh this) (xk 256)⟩
   ·cases this)
  obtain⟨e1,e2⟩:=h2.ol;have hg:∀k,∃n:Nat,k<o.length->o[k]? =some (.int .u8 n):=fun k=>by
   by_cases hk:k<o.length
   ·obtain⟨n,hn,_⟩:=e2 _ (List.getElem_mem hk);exact⟨n,fun _=>by rw[xc hk,hn];rfl⟩
   ·exact⟨0,fun h=>absurd h hk⟩
  refine⟨fun k=>(hg k).choose,fun _=>h1.trans (congrArg some (List.ext_getElem? fun k=> ?_))⟩;by_cases hk:k<o.length
  ·rw[(hg k).choose_spec hk,xx,List.getElem?_range MK];rfl
  ·rw[List.getElem?_eq_none MK,List.getElem?_eq_none (by rw[xm,List.length_range];omega)]
theorem aJ7:Rn F X 183 0 [] (·=[.bool true]):=by
 refine⟨_,N7 (X:=X) (O:=OS fun rows=>(X7 (X:=X) rows).choose) (fun i ds o h=> ?_) _ _ _ _ _ (aJ8 _),rfl⟩;unfold OS at h;split at h
 ·rename_i rows;cases hb:Nat.ble rows.length 1000000&&rows.all GH with
  |true=>
   rw[hb] at h;cases h;exact(X7 rows).choose_spec hb
  |false=>rw[hb] at h;cases h
 ·cases h
end
open Go.Ex Go.RowKit Go.Sort Go.Fl
section
variable{X:Bv}{ar:Dw}{x:Cx}
theorem JB{l:IU}(hl:l.length<=1000000)(n:Nd):aF (.app 3 24) [.sl (Nd.rs l),.sl [n.r]]=some (.sl (Nd.rs (l++[n]))):=by
 have e:(Nd.rs l).length=l.length:=xm _;rw[gb (es:=3) (row:=n.r) rfl rfl MK MK];show some (D.sl (List.map Nd.r l++[n.r]))=some (D.sl (List.map Nd.r (l++[n])));rw[List.map_append];rfl
theorem gh{l:IU}(hl:l.length<=1000000){a b:Ca}:∀(aa V:IU),l=V++aa->Rn F X 133 1 [.sl (Nd.rs V),.sl (Nd.rs l),jD l.length,jD V.length,.sl a,.sl b] (·=[.sl (Nd.rs l),.sl (Nd.rs l),.sl a,.sl b])
 |[],V,hp=>by
  have aL:=iH hp;rw[xj] at hp;subst hp;exact wr Y<|wn Y af<|wt Y Y
 |n::aa,V,hp=>by
  have aL:=gP hp;have ao:(Nd.rs l)[V.length]? =some n.r:=mu hp;have ih:=gh hl (a:=a) (b:=b) aa (V++[n]) (gi hp);rw[xa] at ih;exact wr Y<|wy Y af<|wo Y (ax ao Y)<|wg 3 Y<|wo Y (JB MK n)<|wo Y oA<|wj ih
theorem sN{l:IU}(hl:l.length<=1000000){a b:Ca}:Rn F X 133 0 [.sl (Nd.rs l),.sl a,.sl b] (·=[.sl (Nd.rs l),.sl (Nd.rs l),.sl a,.sl b]):=
 Rn.of (fd:=ZR) (t:=tf) rfl rfl rfl rfl (e_ Y (au (xm _)) rfl (b_ Y (gh hl l [] rfl)))
theorem ag5(v:Bool)(m n:Nd):aF (.te [.u8,.i64,.i64] v) [.agg m.r,.agg n.r]=some (.bool (decide (m=n) !=v)):=by
 have:pA [.u8,.i64,.i64] m.r n.r=some (decide (m=n)):=by
  obtain⟨a,b,c⟩:=m;obtain⟨d,e,f⟩:=n;simp only [Nd.r,pA,and_self,if_true,Option.map_some,Nd.mk.injEq]
  congr 1
  rw[Bool.eq_iff_iff];simp only [xf,decide_eq_true_eq,Bool.and_true]
 show(pA [.u8,.i64,.i64] m.r n.r).map (fun r=>D.bool (r !=v))=_;rw[this];rfl
theorem XW{l:IU}(h:l.Nodup):l7 (gW l):=by
 have h1:=O4 l;have h2:(gW l).Nodup:=(oN l).nodup_iff.2 h;exact(h1.and h2).imp fun h=>by have:=Xn h.1 fun e=>h.2 e.symm;exact this
end
inductive rD (E:Nd×Nd->Prop):Nd->Nd->Prop
 |rfl (a:Nd):rD E a a
 |head {a b c:Nd}:E (a,b)->rD E b c->rD E a c
theorem rD.up{E:Nd×Nd->Prop}{P:Nd->Prop}(hP:∀a b,E (a,b)->P b->P a){a b:Nd}(h:rD E a b)(k:P b):P a:=by
 induction h with
 |rfl a=>exact k
 |head e _ ih=>exact hP _ _ e (ih k)
theorem Vx(m:Nd):∀H:G2,∃v,(jG m.r (bu H)).getD (.sl [])= .sl (Nd.rs v)/\((m,v)∈H\/v=[]/\∀p∈H,p.1≠m)
 |[]=>⟨[],rfl,.inr ⟨rfl,fun p hp=>nomatch hp⟩⟩
 |p::H=>by
  have e:jG m.r (bu (p::H))=if kf m.r (jB p) then some (.sl (Nd.rs p.2)) else jG m.r (bu H):=rfl
  rw[e,M2];by_cases h:p.1=m
  ·rw[u_ h,i_ Y];exact⟨p.2,rfl,.inl (h▸xn)⟩
  ·rw[f_ h,j_ Bool.noConfusion];obtain⟨v,h1,h2⟩:=Vx m H;refine⟨v,h1,h2.imp (xo _) fun h2=>⟨h2.1,fun q hq=> ?_⟩⟩;rcases xG.1 hq with rfl|hq
   ·exact h
   ·exact h2.2 q hq
theorem aY3{k p:Nd}{es:Hj}:p∈tg k es↔(k,p)∈es:=by
 unfold tg;rw[xJ];constructor
 ·rintro⟨e,he,rfl⟩;have:=List.mem_filter.1 he;have h:=of_decide_eq_true this.2;rw[<-h];exact this.1
 ·exact fun h=>⟨_,List.mem_filter.2 ⟨h,u_ rfl⟩,rfl⟩
theorem aX7(m:Nd)(es:Hj):∃v,aF (.u5 KN) [.sl (nx es),.agg m.r,.sl []]=some (.sl (Nd.rs v))/\(∀p,p∈v↔(m,p)∈es)/\v.length<=es.length:=by
 obtain⟨H,h1,h2,_⟩:=ND ((C8 es).map fun k=>(k,gW (tg k es)));obtain⟨v,h3,h4⟩:=Vx m H;have e:aF (.u5 KN) [.sl (nx es),.agg m.r,.sl []]=some ((jG m.r (nx es)).getD (.sl [])):=rfl;refine⟨v,by rw[e,<-h3];unfold nx;rw[h2],?_⟩;rcases h4 with h4|⟨rfl,h4⟩
 ·obtain⟨k,_,e⟩:=xJ.1 (h1.mem_iff.1 h4);cases e;exact⟨fun p=>(oN _).mem_iff.trans aY3,by rw[(oN _).length_eq];exact J6 _ _⟩
 ·refine⟨fun p=>⟨fun h=>(nomatch h),fun h=> ?_⟩,xL _⟩;have hk:m∈C8 es:=FA.2 ((oN _).mem_iff.2 (xJ.2 ⟨_,h,rfl⟩));exact absurd rfl (h4 _ (h1.mem_iff.2 (xJ.2 ⟨m,hk,rfl⟩)))
theorem Yx(n:Nd):∀l:IU,(jG n.r (l.map cL)).getD (.bool false)= .bool (decide (n∈l))
 |[]=>rfl
 |x::l=>by
  have e:jG n.r ((x::l).map cL)=if kf n.r (cL x) then some (.bool true) else jG n.r (l.map cL):=rfl
  have e2:kf n.r (cL x)=decide (x=n):=CW n x;rw[e,e2];by_cases h:x=n
  ·rw[u_ h,i_ Y,u_ (h▸xn)];rfl
  ·rw[f_ h,j_ Bool.noConfusion,Yx n l]
   congr 1
   exact decide_eq_decide.2 ⟨xo _,fun k=>(xG.1 k).elim (fun e=>absurd e.symm h) id⟩
theorem Kh(n:Nd)(l:IU):aF (.u5 KN) [.sl (l.map cL),.agg n.r,.bool false]=some (.bool (decide (n∈l))):=congrArg some (Yx n l)
theorem bq1(m n:Nd):aF (.te [.u8,.i64,.i64] false) [.agg m.r,.agg n.r]=some (.bool (decide (m=n))):=by rw[ag5,Bool.bne_false]
section
variable{X:Bv}{F:List FD}{i:Nat}{env ds:Di}{Q:Di->Prop}
end
section
variable{X:Bv}
theorem XR(x y:Nd):qx x y=0↔x=y:=by
 have h1:∀a b:Int,pa a b=0↔a=b:=fun a b=>by
  unfold pa;split
  ·omega
  ·split<;>omega
 rw[Nd.eq_iff,<-h1 x.k,<-h1 x.a,<-h1 x.b];unfold qx;split
 ·omega
 ·split<;>omega
theorem aO6{n:Nat}(h:n<=100000000):aF (.kS .u64) [jD n]=some (gJ n):=by
 show some (D.int .u64 (IntKind.u64.wrap n))=_;rw[IntWalk.u64_in _ MK]
theorem aX4{n:Nat}(h:n<=100000000):aF (.kS .i64) [gJ n]=some (jD n):=Ai MK
theorem SF{l:IU}(hl:l.length<=1000000)(hs:l7 l)(t:Nd):∀(d lo hi:Nat),hi - lo<=d->lo<=hi->hi<=l.length->(∀j (h:j<l.length),j<lo->aA l[j] t=true)->(∀j (h:j<l.length),hi<=j->aA l[j] t=false)->
 Rn F X 135 1 ([.sl (Nd.rs l),jD l.length,jD lo,jD hi]++t.r) (fun o=>∃k,o=[jD k,.bool (decide (t∈l))])
 |d,lo,hi,hd,h1,h2,h3,h4=>by
  have EU:∀j (h:j<l.length),(Nd.rs l)[j]? =some l[j].r:=fun j h=>by
   show(l.map Nd.r)[j]? =_;rw[xx,xc h];rfl
  refine wr Y ?_;by_cases bm:lo<hi
  ·obtain⟨d,rfl⟩:∃e,d=e+1:=⟨d - 1,MK⟩;have hm:(lo+hi)/2<l.length:=MK
   refine wy Y af<|wo Y (bg (a:=lo) (b:=hi) MK)<|wo Y (aO6 MK)<|wo Y (IT (lo+hi) 1 Pp)<|wo Y (aX4 MK)<|wo Y (ax (EU _ hm) rfl)<|wg 1 Y ?_;dsimp only [c_,n_];refine W.lt Y Y ?_ ?_<;>intro h
   ·refine wo Y oA<|b_ Y ?_;refine SF hl hs t d _ hi MK MK h2 (fun j hj bm=> ?_) h4;by_cases e:j=(lo+hi)/2
    ·subst e;exact h
    ·exact JN ((List.pairwise_iff_getElem.1 hs) j _ hj hm MK) h
   ·refine b_ Y ?_;refine SF hl hs t d lo _ MK MK MK h3 (fun j hj aN=> ?_);cases hc:aA l[j] t with
    |false=>rfl
    |true=>
     by_cases e:j=(lo+hi)/2
     ·subst e;rw[hc] at h;cases h
     ·have:=JN ((List.pairwise_iff_getElem.1 hs) _ j hm hj MK) hc;rw[this] at h;cases h
  ·obtain rfl:hi=lo:=MK
   have irr:∀x:Nd,aA x x=false:=qp.irrefl;have o9:t∈l↔∃h:hi<l.length,l[hi]=t:=by
    constructor
    ·intro hm;obtain⟨j,hj,rfl⟩:=List.getElem_of_mem hm;have jv:hi<=j:=by
      by_cases h:j<hi
      ·have:=h3 j hj h;rw[irr] at this;cases this
      ·omega
     by_cases e:hi=j
     ·subst e;exact⟨hj,rfl⟩
     ·have a:=h4 hi MK (xk _);rw[(List.pairwise_iff_getElem.1 hs) hi j MK hj MK] at a;cases a
    ·rintro⟨h,rfl⟩;exact List.getElem_mem h
   refine wn Y af ?_;by_cases hb:hi<l.length
   ·refine wy Y af<|wo Y (ax (EU _ hb) rfl)<|wg 2 Y ?_;dsimp only [c_,n_];refine Wp.ig (o:=[gm (qx l[hi] t)]) rfl YO rfl<|d_ (ds:=[gm (qx l[hi] t),gm 0]) rfl ay ?_ ?_<;>intro h
    ·exact wt Y ⟨hi,by rw[u_ (o9.2 ⟨hb,(XR _ _).1 h⟩)]⟩
    ·exact wt Y ⟨hi,by rw[f_ fun hm=>h ((XR _ _).2 (o9.1 hm).2)]⟩
   ·refine wn Y af<|wt Y ⟨hi,?_⟩;rw[f_ fun hm=>hb (o9.1 hm).1]
theorem rV{l:IU}(hl:l.length<=1000000)(hs:l7 l)(t:Nd):Rn F X 135 0 ([.sl (Nd.rs l)]++t.r) (fun o=>∃k,o=[jD k,.bool (decide (t∈l))]):=by
 exact wr Y<|wo Y (au (xm _))<|b_ Y (SF hl hs t l.length 0 l.length MK MK (xk _) (fun _ _ h=>absurd h (Nat.not_lt_zero _)) fun _ h k=>absurd h MK)
theorem ix1{l:IU}(hl:l.length<=1000000)(t:Nd):∀(aa V:IU),l=V++aa->Rn F X 134 1 ([.sl (Nd.rs l),jD l.length,jD V.length]++t.r) (fun o=>∃k:Int,o=[.int .i64 k]/\(0<=k↔t∈aa))
 |[],V,hp=>by
  have aL:=iH hp;exact wr Y<|wn Y af<|wt Y ⟨-1,rfl,fun h=>absurd h Pp,fun h=>(nomatch h)⟩
 |n::aa,V,hp=>by
  have aL:=gP hp;have ao:(Nd.rs l)[V.length]? =some n.r:=mu hp;have ih:=ix1 hl t aa (V++[n]) (gi hp);rw[xa] at ih;refine wr Y<|wy Y af<|wo Y (ax ao Y)<|wg 1 Y<|d_ Y (bq1 t n) ?_ ?_<;>intro h
  ·exact wt Y ⟨(V.length:Nat),rfl,fun _=>h▸xn,fun _=>Int.natCast_nonneg _⟩
  ·exact wo Y oA<|b_ Y (ih.mono fun o ⟨k,e,hk⟩=>⟨k,e,hk.trans ⟨xo _,fun m=>(xG.1 m).elim (fun e=>absurd e h) id⟩⟩)
theorem bl7{l:IU}(hl:l.length<=1000000)(t:Nd):Rn F X 134 0 ([.sl (Nd.rs l)]++t.r) (fun o=>∃k:Int,o=[.int .i64 k]/\(0<=k↔t∈l)):=by
 exact wr Y<|wo Y (au (xm _))<|wj (ix1 hl t l [] rfl)
end
def my(N:IU)(s:IU×IU)(p:Nd):IU×IU:=if p∈s.1 then s else if p∈N then(s.1++[p],s.2++[p]) else s
structure VQ (N L I O I' O':IU):Prop where
 m:∀x,x∈I'↔x∈I\/x∈L/\x∈N
 o:∀x,x∈O'↔x∈O\/x∈I'/\x∉I
 nd:I.Nodup->I'.Nodup
 len:O'.length+I.length=O.length+I'.length
theorem Gf(N:IU):∀(L I O:IU),VQ N L I O (L.foldl (my N) (I,O)).1 (L.foldl (my N) (I,O)).2
 |[],I,O=>⟨fun x=>NS,fun x=>NS,id,rfl⟩
 |p::L,I,O=>by
  have e:(p::L).foldl (my N) (I,O)=L.foldl (my N) (my N (I,O) p):=rfl;rw[e];by_cases h1:p∈I
  ·rw[show my N (I,O) p=(I,O) from i_ h1];have h:=Gf N L I O;exact⟨fun x=>by rw[h.m];grind,h.o,h.nd,h.len⟩
  ·by_cases h2:p∈N
   ·rw[show my N (I,O) p=(I++[p],O++[p]) from(j_ h1).trans (i_ h2)];have h:=Gf N L (I++[p]) (O++[p]);have hm:=h.m;have ho:=h.o;have hl:=h.len;rw[xa,xa,List.length_singleton] at hl;refine⟨fun x=>by rw[hm];grind,fun x=> ?_,fun k=>h.nd (Jj k h1),MK⟩;have:=hm x;have:=hm p;rw[ho];grind
   ·rw[show my N (I,O) p=(I,O) from(j_ h1).trans (j_ h2)];have h:=Gf N L I O;exact⟨fun x=>by rw[h.m];grind,h.o,h.nd,h.len⟩
theorem yc(l:IU):(Nd.rs l).length=l.length:=xm _
section
variable{X:Bv}{N:IU}{a b:Ca}
theorem cf1(hN:N.length<=1000000)(I:IU):∀(aa V:IU),N=V++aa->Rn F X 136 1 [.sl (Nd.rs (V.filter fun n=>decide (n∈I))),.sl (Nd.rs N),jD N.length,jD V.length,.sl a,.sl b,.sl (I.map cL)] (·=[.sl (Nd.rs (N.filter fun n=>decide (n∈I))),.sl (Nd.rs N),.sl a,.sl b,.sl (I.map cL)])
 |[],V,hp=>by
  have aL:=iH hp;rw[xj] at hp;subst hp;exact wr Y<|wn Y af<|wt Y Y
 |n::aa,V,hp=>by
  have aL:=gP hp;have ih:=cf1 hN I aa (V++[n]) (gi hp);rw[xa,List.filter_append] at ih;have ho:(V.filter fun n=>decide (n∈I)).length<=1000000:=xH (List.length_filter_le _ _) MK;refine wr Y<|wy Y af<|wo Y (ax (mu hp) rfl)<|wg 1 Y ?_;dsimp only [c_,n_];refine d_ Y (Kh n I) ?_ ?_<;>intro h
  ·rw[show[n].filter (fun n=>decide (n∈I))=[n] from by simp[h]] at ih;exact wg 2 Y<|wo Y (JB ho n)<|wo Y oA<|wj ih
  ·rw[show[n].filter (fun n=>decide (n∈I))=[] from by simp[h],xj] at ih;exact wo Y oA<|wj ih
theorem br7(hN:N.length<=1000000)(I:IU):Rn F X 136 0 [.sl (Nd.rs N),.sl a,.sl b,.sl (I.map cL)] (·=[.sl (Nd.rs (N.filter fun n=>decide (n∈I))),.sl (Nd.rs N),.sl a,.sl b,.sl (I.map cL)]):=by
 exact wr Y<|wo Y (au (yc N))<|wj (cf1 hN I N [] rfl)
theorem Ua(hN:N.length<=1000000)(hs:l7 N){h:Nat}(hh:h=1\/h=3){L:IU}(hL:L.length<=1000000){Q:Di->Prop}:∀(aa V:IU),L=V++aa->∀{I O:IU},I.Nodup->(∀x∈I,x∈N)->O.length<=I.length->
 Rn F X 138 2 [.sl (Nd.rs N),.sl a,.sl b,.sl (Nd.rs (aa.foldl (my N) (I,O)).2),.sl ((aa.foldl (my N) (I,O)).1.map cL)] Q->
 Rn F X 138 h [.sl (Nd.rs L),jD L.length,jD V.length,.sl (Nd.rs N),.sl a,.sl b,.sl (Nd.rs O),.sl (I.map cL)] Q
 |[],V,hp,I,O,_,_,_,K=>by
  have aL:=iH hp;rcases hh with rfl|rfl<;>exact Rn.of (fd:=Dj) rfl rfl rfl rfl (Wp.c8 (ds:=[jD V.length,jD L.length]) rfl af MK (b_ Y K))
 |p::aa,V,hp,I,O,h1,h2,h3,K=>by
  have aL:=gP hp;have next:=fun{I' O':IU} k1 k2 k3 k4=>Ua hN hs hh hL (Q:=Q) aa (V++[p]) (gi hp) (I:=I') (O:=O') k1 k2 k3 k4
  rw[xa] at next;rw[show(p::aa).foldl (my N) (I,O)=aa.foldl (my N) (my N (I,O) p) from Y] at K;have aE:I.length<=N.length:=h1.length_le_of_subset fun x hx=>h2 x hx
  obtain⟨_,hq,k,rfl⟩:=rV (X:=X) hN hs p;have bn:Rn F X 135 0 (.sl (Nd.rs N)::p.r) (·=[jD k,.bool (decide (p∈N))]):=⟨_,hq,rfl⟩;have EU:=mu (f:=Nd.r) hp
  rcases hh with rfl|rfl
  all_goals
   refine Rn.of (fd:=Dj) rfl rfl rfl rfl (Wp.dt (ds:=[jD V.length,jD L.length]) rfl af MK (e_ Y (ax EU rfl) rfl (o_ (l:=p.r) rfl rfl rfl ?_)));dsimp only [c_,n_];refine d_ Y (Kh p I) (fun hI=> ?_) (fun hI=>Wp.note ?_)
   ·rw[show my N (I,O) p=(I,O) from i_ hI] at K;exact wo Y oA<|wj (next h1 h2 h3 K)
   by_cases hP:p∈N
   ·rw[show my N (I,O) p=(I++[p],O++[p]) from(j_ hI).trans (i_ hP)] at K;rw[u_ hP] at bn;have up:=uo p I;rw[show iI p I=I++[p] from j_ hI] at up;exact wL Y bn rfl<|wo Y up<|wg 2 Y<|wo Y (JB MK p)<|wo Y oA<|b_ Y (next (Jj h1 hI) (fun x hx=>(xF.1 hx).elim (h2 x) fun e=>xy.1 e▸hP) (by rw[xa,xa];omega) K)
   ·rw[show my N (I,O) p=(I,O) from(j_ hI).trans (j_ hP)] at K;rw[f_ hP] at bn;exact wL Y bn rfl<|wo Y oA<|wj (next h1 h2 h3 K)
end
section
variable{X:Bv}{N to:IU}{E:Hj}{a:Ca}
abbrev EW(E:Hj)(N to:IU)(x:Nd):Prop:=∃m∈to,m∈N/\rD (· ∈E) x m
structure CI (E:Hj) (N to I O:IU):Prop where
 nd:I.Nodup
 n:∀x∈I,x∈N
 o:∀x∈O,x∈I
 len:O.length<=I.length
 za:∀x∈I,EW E N to x
 t:∀m∈to,m∈N->m∈I
 cl:∀x∈I,x∈O\/∀p,(p,x)∈E->p∈I
theorem co2(hN:N.length<=1000000)(hs:l7 N)(hE:∀e∈E,e.1∈N)(Ia:E.length<=1000000):∀(k:Nat) (I O:IU),2*(N.length - I.length)+O.length<=k->CI E N to I O->
 Rn F X 138 2 [.sl (Nd.rs N),.sl a,.sl (nx (E.map kr)),.sl (Nd.rs O),.sl (I.map cL)] (fun o=>∃I:IU,o=[.sl (Nd.rs (N.filter fun n=>decide (n∈I))),.sl (Nd.rs N),.sl a,.sl (nx (E.map kr))]/\∀n∈N,n∈I↔EW E N to n)
 |k,I,O,hk,c=>by
  have aE:I.length<=N.length:=c.nd.length_le_of_subset fun x hx=>c.n x hx
  have mJ:=c.len;refine wr Y<|wo Y (au (yc O)) ?_;rcases List.eq_nil_or_concat O with rfl|⟨O,n,rfl⟩
  ·refine wg 1 Y<|wl Y (br7 hN I) rfl<|wt Y ⟨I,rfl,fun n _=>⟨c.za n,fun⟨m,h1,h2,h3⟩=> ?_⟩⟩;exact h3.up (P:=(· ∈I)) (fun p x e hx=>((c.cl x hx).elim (fun h=>nomatch h) id) p e) (c.t m h1 h2)
  ·rw[List.concat_eq_append] at*;rw[xa,List.length_singleton] at hk mJ;obtain⟨k,rfl⟩:∃e,k=e+1:=⟨k - 1,MK⟩;obtain⟨v,g1,g2,g3⟩:=aX7 n (E.map kr);rw[xm] at g3;have g4:∀p,p∈v↔(p,n)∈E:=fun p=>(g2 p).trans ⟨fun h=>by obtain⟨⟨x,y⟩,h2,e⟩:=xJ.1 h;cases e;exact h2,fun h=>xJ.2 ⟨_,h,rfl⟩⟩
   have hnI:n∈I:=c.o n (List.mem_append_right _ xn);have q:=Gf N v I O;have st:=Ua (X:=X) hN hs (h:=3) (.inr Y) (L:=v) MK (a:=a) (b:=nx (E.map kr)) (Q:=fun o=>∃I:IU,o=[.sl (Nd.rs (N.filter fun n=>decide (n∈I))),.sl (Nd.rs N),.sl a,.sl (nx (E.map kr))]/\∀n∈N,n∈I↔EW E N to n) v [] rfl (I:=I) (O:=O) c.nd c.n MK (by
    have fj:=q.nd c.nd;have h2:∀x∈(v.foldl (my N) (I,O)).1,x∈N:=fun x hx=>((q.m x).1 hx).elim (c.n x) (·.2)
    have aL:=fj.length_le_of_subset fun x hx=>h2 x hx
    have dK:=q.len;have HK:I.length<=(v.foldl (my N) (I,O)).1.length:=c.nd.length_le_of_subset fun x hx=>(q.m x).2 (.inl hx)
    refine co2 hN hs hE Ia k _ _ MK ⟨fj,h2,fun x hx=> ?_,MK,fun x hx=> ?_,fun m h1 h2=>(q.m m).2 (.inl (c.t m h1 h2)),fun x hx=> ?_⟩
    ·exact((q.o x).1 hx).elim (fun h=>(q.m x).2 (.inl (c.o x (List.mem_append_left _ h)))) (·.1)
    ·rcases(q.m x).1 hx with h|h
     ·exact c.za x h
     ·obtain⟨m,k1,k2,k3⟩:=c.za n hnI;exact⟨m,k1,k2,.head ((g4 x).1 h.1) k3⟩
    ·by_cases h:x∈I
     ·rcases c.cl x h with h4|h4
      ·rcases xF.1 h4 with h5|h5
       ·exact .inl ((q.o x).2 (.inl h5))
       ·obtain rfl:=xy.1 h5;exact .inr fun p hp=>(q.m p).2 (.inr ⟨(g4 p).2 hp,hE _ hp⟩)
      ·exact .inr fun p hp=>(q.m p).2 (.inl (h4 p hp))
     ·exact .inl ((q.o x).2 (.inr ⟨hx,h⟩)))
   have ao:(Nd.rs (O++[n]))[O.length]? =some n.r:=mu (l:=O++[n]) rfl;have hO:(O++[n]).length=O.length+1:=by rw[xa];rfl
   have fW:aF .Dx [.sl (Nd.rs (O++[n])),jD O.length]=some (.sl (Nd.rs O)):=by
    show(if O.length<=(Nd.rs (O++[n])).length then some (D.sl ((Nd.rs (O++[n])).take O.length)) else none)=_;rw[yc,i_ MK,show Nd.rs (O++[n])=Nd.rs O++[n.r] from List.map_append,List.take_left' (yc O)]
   have lnO:aF .sj [.sl (Nd.rs (O++[n]))]=some (jD (O.length+1)):=au ((yc _).trans hO);rw[hO];exact wy Y bZ<|wo Y lnO<|wo Y (nF MK)<|wy Y (nZ ((yc _).trans hO))<|o_ Y (Fk ao Y) rfl<|wo Y lnO<|wo Y (nF MK)<|wo Y fW<|wo Y g1<|wo Y (au (yc v))<|wj st
theorem OU(hN:N.length<=1000000)(hs:l7 N)(hE:∀e∈E,e.1∈N)(Ia:E.length<=1000000)(ht:to.length<=1000000):Rn F X 138 0 [.sl (Nd.rs N),.sl a,.sl (nx (E.map kr)),.sl (Nd.rs to)] (fun o=>∃I:IU,o=[.sl (Nd.rs (N.filter fun n=>decide (n∈I))),.sl (Nd.rs N),.sl a,.sl (nx (E.map kr))]/\∀n∈N,n∈I↔EW E N to n):=by
 have q:=Gf N to [] [];have h2:∀x∈(to.foldl (my N) ([],[])).1,x∈to/\x∈N:=fun x hx=>((q.m x).1 hx).elim (fun h=>nomatch h) id
 refine wr Y<|wg 1 Y<|wo Y (au (yc to))<|b_ Y ?_;refine Ua hN hs (.inl Y) ht to [] rfl (I:=[]) (O:=[]) .nil (fun x h=>nomatch h) (xk _) ?_;refine co2 hN hs hE Ia _ _ _ (xk _) ⟨q.nd .nil,fun x hx=>(h2 x hx).2,fun x hx=>((q.o x).1 hx).elim (fun h=>nomatch h) (·.1),?_,fun x hx=>⟨x,(h2 x hx).1,(h2 x hx).2,.rfl x⟩,fun m h1 h2=>(q.m m).2 (.inr ⟨h1,h2⟩),fun x hx=> .inl ((q.o x).2 (.inr ⟨hx,fun h=>nomatch h⟩))⟩;have:=q.len;simp at this;omega
end
theorem E4(m:Nd)(es:Hj):(jG m.r (nx es)).getD (.sl [])= .sl (Nd.rs (gW (tg m es)))/\(jG m.r (nx es)).isSome=decide (gW (tg m es)≠[]):=by
 obtain⟨H,h1,h2,_⟩:=ND ((C8 es).map fun k=>(k,gW (tg k es)));obtain⟨v,h3,h4⟩:=Vx m H;have e:nx es=bu H:=h2;rw[e];have hn:∀{x:IU},(∃p,p∈x)->x≠[]:=fun⟨p,h⟩ e=>by rw[e] at h;cases h
 have hk:m∈C8 es↔gW (tg m es)≠[]:=by
  unfold C8;rw[FA,(oN _).mem_iff,xJ];refine⟨fun⟨e,h,k⟩=>hn ⟨e.2,(oN _).mem_iff.2 (aY3.2 (k▸h))⟩,fun h=> ?_⟩;obtain⟨p,hp⟩:=List.exists_mem_of_ne_nil _ h;exact⟨_,aY3.1 ((oN _).mem_iff.1 hp),rfl⟩
 rcases h4 with h4|⟨rfl,h4⟩
 ·obtain⟨k,h5,e⟩:=xJ.1 (h1.mem_iff.1 h4);cases e;refine⟨h3,?_⟩;rw[u_ (hk.1 h5)];cases h:jG m.r (bu H) with
  |none=>rw[h] at h3;exact absurd (List.map_eq_nil_iff.1 (D.sl.inj h3).symm) (hk.1 h5)
  |some d=>rfl
 ·have h0: ¬m∈C8 es:=fun h=>h4 _ (h1.mem_iff.2 (xJ.2 ⟨m,h,rfl⟩)) rfl
  have h5:gW (tg m es)=[]:=Decidable.byContradiction fun h=>h0 (hk.2 h)
  rw[h5];refine⟨h3,?_⟩;have:∀G:G2,(∀p∈G,p.1≠m)->jG m.r (bu G)=none:=fun G=>by
   induction G with
   |nil=>exact fun _=>rfl
   |cons p G ih=>
    intro h;show(if kf m.r (jB p) then some (.sl (Nd.rs p.2)) else jG m.r (bu G))=none;rw[M2,f_ (h p xn),j_ Bool.noConfusion];exact ih fun q hq=>h q (xo _ hq)
  rw[this H h4];rfl
section
variable{X:Bv}{N:IU}{E:Hj}{Q:Di->Prop}{i:Nat}{env:Di}
structure OH (N:IU) (E:Hj):Prop where
 n:N.length<=1000000
 asc:l7 N
 e:E.length<=1000000
 e1:∀e∈E,e.1∈N
 e2:∀e∈E,e.2∈N
abbrev gD(N:IU)(E:Hj):Di:=[.sl (Nd.rs N),.sl (nx E),.sl (nx (E.map kr))]
theorem Wp.dN(H:OH N E){us ws:C3}{q:Nat}{m:Nd}{e0 e1 t:DT}(h1:aH (bR (lk env)) us=some [.sl (nx E),.agg m.r,.sl []])(h2:∀l,aH (bR (lk (env++[.sl l]))) [cd q]=some [.sl l])(h3:∀l,aH (bR (lk (env++[.sl l]++[.sl []]))) ws=some [.sl [],.sl l])
 (ht:Wp F X i t (env++[.sl (Nd.rs (gW (tg m E)))]++[.sl []]++[.sl (Nd.rs (gW (tg m E)))]) Q) (he:gW (tg m E)=[]->Wp F X i e1 env Q):
 Wp F X i (.br (.ko KN) us (.op (.u5 KN) us (.br (.AV false) [cd q] e0 (.op (.dB 3 0) [] (.op (.app 3 24) ws t)))) e1) env Q:=by
 obtain⟨k1,k2⟩:=E4 m E;have o1:aF (.ko KN) [.sl (nx E),.agg m.r,.sl []]=some (.bool (decide (gW (tg m E)≠[]))):=by rw[<-k2];rfl
 have o2:aF (.u5 KN) [.sl (nx E),.agg m.r,.sl []]=some (.sl (Nd.rs (gW (tg m E)))):=by rw[<-k1];rfl
 have hl:(gW (tg m E)).length<=1000000:=by rw[(oN _).length_eq];exact xH (J6 _ _) H.e
 have aL:=yc (gW (tg m E));refine Wp.aD h1 o1 (fun h=> ?_) (fun h=>he (Decidable.byContradiction h));have o3:aF (.AV false) [.sl (Nd.rs (gW (tg m E)))]=some (.bool false):=by
  cases hz:gW (tg m E) with
  |nil=>exact absurd hz h
  |cons x l=>rfl
 have o4:aF (.app 3 24) [.sl [],.sl (Nd.rs (gW (tg m E)))]=some (.sl (Nd.rs (gW (tg m E)))):=yg (es:=3) (bys:=24) (rows:=[]) (q:=Nd.rs (gW (tg m E))) (fun row hr=>by obtain⟨c,_,rfl⟩:=xJ.1 hr;exact⟨rfl,rfl⟩) (by rw[aL];show 0+_<=_;omega) (by rw[aL];show(0+_)*24<=_;omega);refine Wp.op h1 o2 rfl<|Wp.qQ (h2 _) o3<|wg 1 Y<|e_ (h3 _) o4 rfl ?_;exact ht
end
theorem rD.trans{E:Nd×Nd->Prop}{a b c:Nd}(h:rD E a b)(k:rD E b c):rD E a c:=h.up (P:=fun x=>rD E x c) (fun _ _ e k=> .head e k) k
section
variable{X:Bv}{N:IU}{E:Hj}{Q:Di->Prop}{i:Nat}{env:Di}
theorem Wp.ak(H:OH N E){f g:Nat}{bs gs xs ys:C3}{n1 n2:Ex.Node}{t e:DT}{x m:Nd}(h1:aH (bR (lk env)) bs=some m.r)(h2:aH (aX (lk (env++[.sl [m.r]]))) gs=some (gD N E++[.sl [m.r]]))
 (h3:∀l,aH (aX (lk (env++[.sl [m.r]]++ .sl (Nd.rs l)::gD N E))) xs=some (.sl (Nd.rs l)::x.r)) (h4:∀l k,aH (bR (lk (env++[.sl [m.r]]++ .sl (Nd.rs l)::gD N E++[.int .i64 k]))) ys=some [.int .i64 k,jD 0])
 (ht:∀l k,x∈N->m∈N->rD (· ∈E) x m->Wp F X i t (env++[.sl [m.r]]++ .sl (Nd.rs l)::gD N E++[.int .i64 k]) Q) (he:∀l k,¬(x∈N/\m∈N/\rD (· ∈E) x m)->Wp F X i e (env++[.sl [m.r]]++ .sl (Nd.rs l)::gD N E++[.int .i64 k]) Q):
 Wp F X i (.note n1 (.op (.dB 3 1) bs (.call f 138 gs [none,none,none,none] (.note n2 (.call g 134 xs [none] (.br (.bin .geq 0) ys t e) .stop)) .stop))) env Q:=by
 obtain⟨_,hq,J,rfl,hJ⟩:=OU (X:=X) (N:=N) (to:=[m]) (E:=E) (a:=nx E) H.n H.asc H.e1 H.e (Nat.le_add_left 1 999999);have cn:Rn F X 138 0 (gD N E++[.sl [m.r]]) (·= .sl (Nd.rs (N.filter fun n=>decide (n∈J)))::gD N E):=⟨_,hq,rfl⟩;have hJl:=List.length_filter_le (fun n=>decide (n∈J)) N;have hn:=H.n;obtain⟨_,qF,k,rfl,fO⟩:=bl7 (X:=X) (l:=N.filter fun n=>decide (n∈J)) MK x;have ix:Rn F X 134 0 (.sl (Nd.rs (N.filter fun n=>decide (n∈J)))::x.r) (·=[.int .i64 k]):=⟨_,qF,rfl⟩;have key:0<=k↔x∈N/\m∈N/\rD (· ∈E) x m:=by
  rw[fO,List.mem_filter];constructor
  ·rintro⟨k1,k2⟩;obtain⟨y,k3,k4,k5⟩:=(hJ x k1).1 (of_decide_eq_true k2);obtain rfl:=xy.1 k3;exact⟨k1,k4,k5⟩
  ·rintro⟨k1,k2,k3⟩;exact⟨k1,u_ ((hJ x k1).2 ⟨m,xn,k2,k3⟩)⟩
 refine wg 1 Y<|Wp.op h1 rfl rfl<|Wp.ig h2 cn rfl<|wg 1 Y<|Wp.ig (h3 _) ix rfl<|d_ (h4 _ k) eP ?_ ?_<;>intro h
 ·obtain⟨k1,k2,k3⟩:=key.1 h;exact ht _ k k1 k2 k3
 ·exact he _ k fun h2=>h (key.2 h2)
theorem nn(H:OH N E){a b:Nd}(hb:b∈N){L:IU}(hl:L.length<=1000000)(hL:∀n∈L,(a,n)∈E):∀(aa V:IU),L=V++aa->
 Rn F X 163 2 ([.sl (Nd.rs L),jD L.length,jD V.length,.sl (Nd.rs N)]++a.r++b.r++[.sl (nx E),.sl (nx (E.map kr))]) (·=[.bool true])
 |[],V,hp=>by
  have aL:=iH hp;exact wr Y<|wn Y af<|wt Y Y
 |n::aa,V,hp=>by
  have aL:=gP hp;have ih:=nn H hb hl hL aa (V++[n]) (gi hp);rw[xa] at ih;have hn:=hL n (by rw[hp];exact List.mem_append_right _ xn);have ao:=Fk (off:=0) (n:=3) (b:=true) (d:= .agg n.r) (mu (f:=Nd.r) hp) rfl;refine wr Y<|wy Y af<|wy Y (nZ (yc L))<|o_ Y ao Y ?_;dsimp only [c_,n_];refine Wp.ak H (x:=a) (m:=n) rfl rfl (fun _=>rfl) (fun _ _=>rfl) (fun l k _ _ _=> ?_) (fun l k h=>absurd ⟨H.e1 _ hn,H.e2 _ hn,.head hn (.rfl _)⟩ h);dsimp only [c_,n_];refine Wp.ak H (x:=n) (m:=b) rfl rfl (fun _=>rfl) (fun _ _=>rfl) (fun l k _ _ hr=> ?_) (fun l k h=> ?_)
  ·dsimp only [c_,n_];refine Wp.ak H (x:=a) (m:=b) rfl rfl (fun _=>rfl) (fun _ _=>rfl) (fun l k _ _ _=> ?_) (fun l k h=>absurd ⟨H.e1 _ hn,hb,.head hn hr⟩ h);exact wo Y oA<|wj ih
  ·exact wo Y oA<|wj ih
theorem pS(H:OH N E)(h1:1<=N.length){x y z:Nat}(hx:x<=255)(hy:y<=255)(hz:z<=255):∀(k j:Nat),j+k=N.length->1<=j->Rn F X 163 1 ([.sl (Nd.rs N),jD j,bD x,bD y,bD z]++gD N E) (·=[.bool true])
 |k,j,hj,h0=>by
  have hn:=H.n;have EU:∀j (h:j<N.length),(Nd.rs N)[j]? =some N[j].r:=fun j h=>by
   show(N.map Nd.r)[j]? =_;rw[xx,xc h];rfl
  have pw:=List.pairwise_iff_getElem.1 H.asc;refine wr Y<|wo Y (au (yc N))<|d_ (ds:=[jD j,jD N.length]) rfl af (fun bm=> ?_) (fun bm=> ?_)
  ·have bm:j<N.length:=MK
   obtain⟨k,rfl⟩:∃e,k=e+1:=⟨k - 1,MK⟩;obtain⟨q,rfl⟩:∃e,j=e+1:=⟨j - 1,MK⟩;have ih:=pS H h1 hx hy hz k (q+1+1) MK MK;have hq:=pw q (q+1) MK bm MK;have qF:aA N[q+1] N[q]=false:=by
    cases h:aA N[q+1] N[q] with
    |false=>rfl
    |true=>have:=JN hq h;rw[show aA _ _=false from qp.irrefl _] at this;cases this
   have a1:=EU q MK
   have a2:=EU (q+1) bm
   generalize N[q]=u at hq qF a1;generalize N[q+1]=v at hq qF a2;have od:aF (.bin .sub 0) [jD (q+1),jD 1]=some (jD q):=nF MK;refine wo Y od<|wo Y (ax a1 rfl)<|wg 1 Y<|wo Y (ax a2 rfl)<|wg 1 Y ?_;dsimp only [c_,n_];refine W.lt (x:=u) (y:=v) rfl rfl (fun _=> ?_) (fun h=>by rw[hq] at h;cases h);refine wo Y (ax a2 rfl)<|wg 1 Y<|wo Y od<|wo Y (ax a1 rfl)<|wg 1 Y ?_;dsimp only [c_,n_];refine W.lt (x:=v) (y:=u) rfl rfl (fun h=>by rw[qF] at h;cases h) (fun _=> ?_);exact wo Y oA<|wj ih
  ·have pick:∀w:Nat,∃n,(Nd.rs N)[w%N.length]? =some n.r/\n∈N:=fun w=>⟨_,EU _ (Nat.mod_lt _ h1),List.getElem_mem _⟩
   obtain⟨a,a1,a2⟩:=pick x;obtain⟨b,b1,b2⟩:=pick y;obtain⟨c,c1,_⟩:=pick z;have fin:=nn (X:=X) H (a:=a) b2 (L:=gW (tg a E)) (by rw[(oN _).length_eq];exact xH (J6 _ _) H.e) (fun n hn=>aY3.1 ((oN _).mem_iff.1 hn)) _ [] rfl;have dE:gW (tg a E)=[]->Rn F X 163 2 ([.sl [],jD 0,jD 0,.sl (Nd.rs N)]++a.r++b.r++[.sl (nx E),.sl (nx (E.map kr))]) (·=[.bool true]):=fun h=>by rw[h] at fin;exact fin
   refine wo Y oC<|wo Y (au (yc N))<|wo Y (ka (a:=x) (b:=N.length) _ h1)<|wo Y (ax a1 rfl)<|o_ Y (show aF (.wa 3) [.ptr a.r 0]=some (.agg a.r) from Y) rfl ?_;dsimp only [c_,n_];refine wo Y oC<|wo Y (au (yc N))<|wo Y (ka (a:=y) (b:=N.length) _ h1)<|wo Y (ax b1 rfl)<|o_ Y (show aF (.wa 3) [.ptr b.r 0]=some (.agg b.r) from Y) rfl ?_;dsimp only [c_,n_];refine wo Y oC<|wo Y (au (yc N))<|wo Y (ka (a:=z) (b:=N.length) _ h1)<|wo Y (ax c1 Y)<|o_ Y (show aF (.wa 3) [.ptr c.r 0]=some (.agg c.r) from Y) rfl ?_;dsimp only [c_,n_];refine Wp.ak H (x:=a) (m:=a) rfl rfl (fun _=>rfl) (fun _ _=>rfl) (fun l k _ _ _=> ?_) (fun l k h=>absurd ⟨a2,a2,.rfl _⟩ h);dsimp only [c_,n_];refine Wp.ak H (x:=a) (m:=b) rfl rfl (fun _=>rfl) (fun _ _=>rfl) (fun l k _ _ r1=> ?_) (fun l k _=> ?_)
   ·dsimp only [c_,n_];refine Wp.ak H (x:=b) (m:=c) rfl rfl (fun _=>rfl) (fun _ _=>rfl) (fun l k _ c2 r2=> ?_) (fun l k _=> ?_)
    ·dsimp only [c_,n_];refine Wp.ak H (x:=a) (m:=c) rfl rfl (fun _=>rfl) (fun _ _=>rfl) (fun l k _ _ _=> ?_) (fun l k h=>absurd ⟨a2,c2,r1.trans r2⟩ h);dsimp only [c_,n_];exact Wp.dN H (m:=a) rfl (fun _=>rfl) (fun _=>rfl) (e_ Y (au (yc _)) rfl (b_ Y fin)) fun h=>b_ Y (dE h)
    ·dsimp only [c_,n_];exact Wp.dN H (m:=a) rfl (fun _=>rfl) (fun _=>rfl) (e_ Y (au (yc _)) rfl (b_ Y fin)) fun h=>b_ Y (dE h)
   ·dsimp only [c_,n_];exact Wp.dN H (m:=a) rfl (fun _=>rfl) (fun _=>rfl) (e_ Y (au (yc _)) rfl (b_ Y fin)) fun h=>b_ Y (dE h)
theorem sE(p:ui){x y z:Nat}(hx:x<=255)(hy:y<=255)(hz:z<=255):Rn F X 163 0 (p.d++[bD x,bD y,bD z]) (·=[.bool true]):=by
 have aw:=aJ7 (X:=X);obtain⟨o,hq,f,ar,src,rows,ids,rfl,hf,hp,dP⟩:=aP6 (X:=X) p;have mk:Rn F X 108 0 p.d (·=ny f src ids rows::f.r):=⟨_,hq,rfl⟩;have de:tu ar (⟨f,src,ids,rows,0,⟨[],[],[]⟩⟩:Cx):=⟨hf,hp,dP.len⟩;obtain⟨o2,qF,ns,E,rfl,h1,h2,h3,h4,h5,h6⟩:=bd8 (X:=X) de;have dof:Rn F X 129 0 [ny f src ids rows] (·=gD (gW ns) E):=⟨_,qF,rfl⟩;have af8:=XW h1;have hNl:(gW ns).length<=1000000:=by rw[(oN ns).length_eq];exact h3
 have Rl:∀n,n∈gW ns↔_:=fun n=>(oN ns).mem_iff.trans (h5 n)
 generalize gW ns=N at*;have H:OH N E:=⟨hNl,af8,h4,fun e he=>(Rl _).2 (.inr ⟨e,(h6 e).1 he,.inl Y⟩),fun e he=>(Rl _).2 (.inr ⟨e,(h6 e).1 he,.inr Y⟩)⟩;have H7:1<=N.length:=by
  have hn:=hf.n;obtain⟨c,hc⟩:∃c,f.comps[0]? =some c:=⟨f.comps[0]' MK,xc _⟩;obtain⟨_,ints,tables,al,k1,k2,k3,k4,k5,_⟩:=hf.comps 0 c hc;have:(⟨1,0,0⟩:Nd)∈N:=(Rl _).2 (.inl (List.mem_append_right _ (List.mem_flatMap.2 ⟨(c,0),List.mem_zipIdx_iff_getElem?.2 hc,List.mem_append_left _ (xJ.2 ⟨0,List.mem_range.2 (by rw[show(eo (⟨f,src,ids,rows,0,⟨[],[],[]⟩⟩:Cx) (c,0)).cm=c from Y,k5];simp;omega),rfl⟩)⟩)));exact List.length_pos_of_mem this
 refine wr Y<|wg 1 Y<|Wp.ig (f:=8) rfl aw rfl<|wl Y mk rfl ?_;dsimp only [ui.d,dj.r,c_,n_];exact wg 1 Y<|wl Y dof rfl<|wl Y (sN hNl) rfl<|wo Y (au (yc N))<|wn Y ay<|b_ Y (pS H H7 hx hy hz (N.length - 1) 1 MK (xk _))
end
end Go.Proofs.YthicpeihkkokmaaGreatDoor
