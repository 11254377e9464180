/- What these functions answer. -/
import Derived.Test.YthicpeihkkokmaaGreatDoorP1
import Derived.Test.YthicpeihkkokmaaGreatDoorA0
set_option linter.unusedVariables false
set_option linter.unusedSimpArgs false
set_option maxHeartbeats 4000000
set_option maxRecDepth 100000
namespace Go.Proofs.YthicpeihkkokmaaGreatDoor
open Go.Ex Go.RowKit Go.Sort
structure GI (es:yH) (G:G2):Prop where
 nd:(G.map (·.1)).Nodup
 v:∀p∈G,p.2=tg p.1 es
 k:∀m,m∈G.map (·.1)↔m∈es.map (·.1)
theorem J6(k m n:Nd)(es:yH):tg k (es++[(m,n)])=if m=k then tg k es++[n] else tg k es:=by
 unfold tg;rw[List.filter_append,List.map_append];by_cases h:m=k
 ·rw[if_pos h,List.filter_cons_of_pos (by exact decide_eq_true h)];rfl
 ·rw[if_neg h,List.filter_cons_of_neg (by simpa using h)];exact xj _
theorem aU3{k:Nd}{es:yH}(h:k∉es.map (·.1)):tg k es=[]:=by
 unfold tg;rw[List.filter_eq_nil_iff.2 fun e he=>by simp only [decide_eq_true_eq];exact fun e1=>h (xJ.2 ⟨e,he,e1⟩)];rfl
theorem Q6(k:Nd)(es:yH):(tg k es).length<=es.length:=by
 unfold tg;rw[xm];exact List.length_filter_le _ _
theorem GI.add{es:yH}{G:G2}(h:GI es G)(m n:Nd):GI (es++[(m,n)]) (E6 m n G):=by
 unfold E6;cases hk:cY m.r (bB G) with
 |none=>
  have hm:=yA hk;have yd:m∉G.map (·.1):=fun h1=>by obtain⟨p,h2,h3⟩:=xJ.1 h1;exact hm p h2 h3
  refine⟨?_,fun p hp=> ?_,fun x=> ?_⟩
  ·show((G++[(m,[n])]).map (·.1)).Nodup;rw[List.map_append];exact List.nodup_append.2 ⟨h.nd,P6,fun a ha b hb e=>yd (by have e2:b=m:=xy.1 hb;rw[<-e2,<-e];exact ha)⟩
  ·rcases xF.1 hp with hp|hp
   ·rw[J6,if_neg (fun e=>hm p hp e.symm)];exact h.v p hp
   ·rw[xy.1 hp,J6,if_pos rfl,aU3 (fun h1=>yd ((h.k m).2 h1))];rfl
  ·show x∈(G++[(m,[n])]).map (·.1)↔_;rw[List.map_append,List.map_append,xF,xF,h.k];rfl
 |some j=>
  obtain⟨v,e1,_⟩:=Jz h.nd hk;have hm:m∈es.map (·.1):=(h.k m).1 (xJ.2 ⟨_,xu e1,rfl⟩);refine⟨?_,fun p hp=> ?_,fun x=> ?_⟩
  ·show((mi m (· ++[n]) G).map (·.1)).Nodup;rw[W2];exact h.nd
  ·obtain⟨q,hq,rfl⟩:=xJ.1 (show p∈mi m (· ++[n]) G from hp);by_cases e:q.1=m
   ·rw[if_pos e];show q.2++[n]=tg q.1 _;rw[J6,if_pos e.symm,<-h.v q hq]
   ·rw[if_neg e,J6,if_neg (fun e2=>e e2.symm)];exact h.v q hq
  ·show x∈(mi m (· ++[n]) G).map (·.1)↔_;rw[W2,h.k,List.map_append,xF];refine⟨.inl,fun h1=>h1.elim id fun h2=> ?_⟩;rw[xy.1 h2];exact hm
def oU(S:Jv)(G:G2):G2:=G.map fun p=>if p.1∈S then(p.1,iH p.2) else p
theorem aL6(S:Jv)(G:G2):(oU S G).map (·.1)=G.map (·.1):=by
 unfold oU;rw[List.map_map];refine List.map_congr_left fun p _=> ?_
 show(if p.1∈S then(p.1,iH p.2) else p).1=p.1;split<;>rfl
theorem aL5(S:Jv)(n:Nd)(G:G2):mi n iH (oU S G)=oU (S++[n]) G:=by
 unfold mi oU;rw[List.map_map];refine List.map_congr_left fun p _=> ?_
 obtain⟨k,v⟩:=p;by_cases h:k∈S<;>by_cases e:k=n<;>simp_all [aU8]
theorem GI.nx{es:yH}{G:G2}(h:GI es G){S:Jv}(hS:∀e∈es,e.1∈S):tK (bB (oU S G))=nx es:=by
 have hG:oU S G=G.map fun p=>(p.1,iH (tg p.1 es)):=by
  refine List.map_congr_left fun p hp=> ?_
  obtain⟨e,he,e1⟩:=xJ.1 ((h.k p.1).1 (List.mem_map_of_mem hp));rw[if_pos (by rw[<-e1];exact hS e he),h.v p hp]
 have hn:=h.nd;rw[hG];refine bc5 ?_ (by rw[List.map_map];exact hn);have e2:G.map (fun p=>(p.1,iH (tg p.1 es)))=(G.map (·.1)).map fun k=>(k,iH (tg k es)):=by rw[List.map_map];rfl
 rw[e2];refine List.Perm.map _ ((List.perm_ext_iff_of_nodup hn (Qz _)).2 fun a=> ?_);rw[h.k,Kk,(sL _).mem_iff]
theorem Xb{es:yH}{G:G2}(h:GI es G){S:Jv}{m:Nd}{v:Jv}(hv:v=[]\/(m,v)∈oU S G):v.length<=es.length:=by
 rcases hv with rfl|hv
 ·exact xL _
 ·obtain⟨p,hp,e⟩:=xJ.1 hv;have hl:=Q6 p.1 es;rw[<-h.v p hp] at hl;split at e<;>cases e
  ·rw[(sL p.2).length_eq];exact hl
  ·exact hl
section
variable{X:fm}
theorem OY{l:Jv}(h:l.length<=1000000):Rn F X 179 0 [.sl (Nd.rs l)] (·=[.sl (Nd.rs (iH l))]):=aU9 (d:=l.toArray) h
theorem gr7{S:Jv}{es es':yH}{G G':G2}(h1:GI es G)(h2:GI es' G')(hS:∀e∈es,e.1∈S)(UU:∀e∈es',e.1∈S)(b1:es.length<=1000000)(b2:es'.length<=1000000)(b3:S.length<=1000000):
 ∀(k i:Nat),i+k=S.length->Rn F X 165 7 [.sl (Nd.rs S),jD S.length,jD i,.sl (bB (oU (S.take i) G)),.sl (bB (oU (S.take i) G'))] (·=[.sl (Nd.rs S),.sl (nx es),.sl (nx es')])
 |0,i,hi=>by
  refine wr rfl<|Wp.rG rfl (by rw[ai,decide_eq_false PT]) ?_;have fB:∀G:G2,(bB G).all Rc=true:=fun G=>by
   rw[List.all_eq_true];intro r hr;obtain⟨p,_,rfl⟩:=xJ.1 hr;rfl
  rw[List.take_of_length_le PT];have e1:∀G:G2,aL .DH [.sl (bB (oU S G))]=some (.sl (tK (bB (oU S G)))):=fun G=>by
   show(if(bB (oU S G)).all Rc then some (D.sl (tK (bB (oU S G)))) else none)=_;rw[fB];rfl
  refine wg 1 rfl<|wo rfl (e1 G)<|wg 1 rfl<|wo rfl (e1 G')<|wt rfl ?_;rw[h1.nx hS,h2.nx UU]
 |k+1,i,hi=>by
  have ov:i<S.length:=PT
  refine wr rfl<|Wp.nV rfl (by rw[ai,decide_eq_true PT]) ?_;have hz:(Nd.rs S)[i]? =some S[i].r:=by
   show(S.map Nd.r)[i]? =_;rw[xx,xc ov];rfl
  have a1:aL .jf [.sl (Nd.rs S),jD i]=some (.bool true):=by
   show some (D.bool (decide (i<(S.map Nd.r).length)))=_;rw[xm,decide_eq_true ov]
  have a2:aL (.qK 0 3 true) [.sl (Nd.rs S),jD i]=some (.agg S[i].r):=by
   show((Nd.rs S)[i]?).bind (fun r=>yX r 0 3 true)=_;rw[hz];rfl
  have dj:∀{es G},GI es G->((oU (S.take i) G).map (·.1)).Nodup:=fun h=>by rw[aL6];exact h.nd
  obtain⟨r1,v1,k1,k2,k3⟩:=Y8 (dj h1) S[i] iH;obtain⟨r2,v2,l1,l2,l3⟩:=Y8 (dj h2) S[i] iH;rw[aL5,<-List.take_succ_eq_append_getElem ov] at k3 l3;have s1:=Xb h1 k2;have s2:=Xb h2 l2;refine Wp.nV rfl a1<|Wp.aV rfl a2 rfl<|Wp.aV rfl k1 rfl<|wl rfl (OY PT) rfl ?_;dsimp only [List.cons_append,List.nil_append];refine Wp.aV rfl l1 rfl<|wl rfl (OY PT) rfl ?_;dsimp only [List.cons_append,List.nil_append];refine wo rfl (bm (a:=i) (b:=1) PT)<|wg 1 rfl<|wo rfl k3<|wg 1 rfl<|wo rfl l3<|Wp.jump rfl ?_;exact gr7 h1 h2 hS UU b1 b2 b3 k (i+1) PT
end
theorem Og{α:Type}:∀(l:List α) (j:Nat) (h:j<l.length),(l[j]::l.eraseIdx j).Perm l
 |[],j,h=>absurd h (Nat.not_lt_zero j)
 |x::l,0,_=> .refl _
 |x::l,j+1,h=>(List.Perm.swap x _ _).trans ((Og l j (Nat.lt_of_succ_lt_succ h)).cons x)
theorem WV{α β:Type}(f:α->β):∀(l:List α) (j:Nat),(l.map f).eraseIdx j=(l.eraseIdx j).map f
 |[],j=>rfl
 |x::l,0=>rfl
 |x::l,j+1=>by
  show f x::(l.map f).eraseIdx j=f x::(l.eraseIdx j).map f;rw[WV f l j]
def l5(e:Nd×Nd):kG:=[.agg (e.1.r++e.2.r),.bool true]
def eS(n:Nd):kG:=[.agg n.r,.bool true]
def z3(e:Nd×Nd):Nd×Nd:=(e.2,e.1)
theorem X6(G:G2):oU [] G=G:=(List.map_congr_left fun p _=>if_neg (List.not_mem_nil)).trans (List.map_id G)
theorem Xl{α:Type}{f:α->kG}{g:α->kG}{v:D}(hf:∀x,f x=[.agg (g x),v]){nk:Nat}(hg:∀x,(g x).length=nk){env:kG}{left:List α}{j:Nat}(hj:j<left.length):qC nk env (left.map f) j=some (env++(g left[j]++[v,.sl ((left.eraseIdx j).map f)])):=by
 unfold qC;rw[xx,xc hj];show(match some (f left[j]) with|some [D.agg kd,v]=>if kd.length=nk then some (env++(kd++[v,D.sl ((left.map f).eraseIdx j)])) else none|_=>none)=_;rw[hf];show(if(g left[j]).length=nk then some (env++(g left[j]++[v,D.sl ((left.map f).eraseIdx j)])) else none)=_;rw[if_pos (hg _),WV]
section
variable{X:fm}
theorem gr4{S:Jv}(b3:S.length<=1000000)(A:gj):∀(k:Nat) (left oF:yH) (G G':G2),left.length=k->GI oF G->GI (oF.map z3) G'->oF.length+left.length<=1000000->(∀e∈oF++left,e.1∈S/\e.2∈S)->
 Rn F X 165 4 [.sl (Nd.rs S),.sl A,.sl (left.map l5),.sl (bB G),.sl (bB G')] (·=[.sl (Nd.rs S),.sl (nx (oF++left)),.sl (nx ((oF++left).map z3))])
 |0,left,oF,G,G',hl,h1,h2,hb,hS=>by
  obtain rfl:=xA hl;rw[xj] at hS⊢;refine wr rfl<|Wp.pick (left:=[]) rfl (fun _=>⟨[.sl (Nd.rs S),.sl A,.sl [],.sl (bB G),.sl (bB G')],?_,?_⟩) (fun j hj=>absurd hj (Nat.not_lt_zero j))
  ·rfl
  refine wr rfl<|wo rfl bf<|Wp.jump rfl ?_;have:=gr7 (X:=X) h1 h2 (S:=S) (fun e he=>(hS e he).1) (fun e he=>by obtain⟨q,hq,rfl⟩:=xJ.1 he;exact(hS q hq).2) PT (by rw[xm];omega) b3 S.length 0 PT;rw[List.take_zero,X6,X6] at this;rw[show(Nd.rs S).length=S.length from xm _];exact this
 |k+1,left,oF,G,G',hl,h1,h2,hb,hS=>by
  refine wr rfl<|Wp.pick (left:=left.map l5) rfl (fun e=>by rw[List.map_eq_nil_iff] at e;subst e;cases hl) (fun j hj=> ?_);have pS:j<left.length:=by rw[xm] at hj;exact hj
  refine⟨_,[.sl (Nd.rs S),.sl A,.sl ((left.eraseIdx j).map l5)]++left[j].1.r++left[j].2.r++[.bool true,.sl (bB G),.sl (bB G')],Xl (f:=l5) (g:=fun e=>e.1.r++e.2.r) (v:= .bool true) (fun _=>rfl) (fun _=>rfl) pS,rfl,?_⟩;have hp:=Og left j pS;have aD:(left.eraseIdx j).length=k:=by have:=hp.length_eq;rw[xi] at this;omega
  generalize left[j]=e at hp⊢;generalize left.eraseIdx j=kz at hp aD⊢;obtain⟨m,n⟩:=e;have aO:(oF++[(m,n)]++kz).Perm (oF++left):=by rw[List.append_assoc];exact hp.append_left oF
  have ih:=gr4 b3 A k kz (oF++[(m,n)]) (E6 m n G) (E6 n m G') aD (h1.add m n) (by rw[List.map_append];exact h2.add n m) (by rw[xa];show oF.length+1+kz.length<=1000000;have:=hp.length_eq;rw[xi] at this;omega) (fun e he=>hS e (aO.mem_iff.1 he));rw[Yp aO,Yp (aO.map z3)] at ih;refine wr rfl ?_;obtain⟨r1,v1,j1,k1,k2,k3⟩:=ZP h1.nd m n;obtain⟨r2,v2,j2,l1,l2,l3⟩:=ZP h2.nd n m;have q1:v1.length<=oF.length:=by
   rcases k2 with rfl|k2
   ·exact xL _
   ·have:=Q6 m oF;rw[<-h1.v _ k2] at this;exact this
  have q2:v2.length<=oF.length:=by
   rcases l2 with rfl|l2
   ·exact xL _
   ·have:=Q6 n (oF.map z3);rw[<-h2.v _ l2,xm] at this;exact this
  have z1:(Nd.rs v1).length=v1.length:=xm _;have z2:(Nd.rs v2).length=v2.length:=xm _;refine Wp.aV rfl k1 rfl<|wg 2 rfl<|wo rfl oP<|wo rfl k3 ?_;dsimp only [List.cons_append,List.nil_append];exact Wp.aV rfl l1 rfl<|wg 2 rfl<|wo rfl oP<|wo rfl l3<|wj ih
abbrev Vi(fr:kG)(fo:Nat)(x1 x2 x3 x4:Int):kG:=[.ptr fr fo,iD9 x1,.int .u8 x2,iD9 x3,iD9 x4]
theorem gi0:GI [] []:=⟨.nil,fun p hp=>(nomatch hp),fun m=>Iff.rfl⟩
theorem gr1{E:yH}{l:Jv}(b1:l.length<=1000000)(b2:E.length<=1000000)(hE:∀e∈E,e.1∈l/\e.2∈l)(A:gj)(fr:kG)(fo:Nat)(x1 x2 x3 x4:Int):∀(k:Nat) (left bJ:Jv),left.length=k->(bJ++left).Perm l->
 Rn F X 165 1 (Vi fr fo x1 x2 x3 x4++[.sl (Nd.rs bJ),.sl A,.sl (left.map eS),.sl (E.map l5),.sl []]) (·=[.sl (Nd.rs (iH l)),.sl (nx E),.sl (nx (E.map z3))])
 |0,left,bJ,hl,hp=>by
  obtain rfl:=xA hl;rw[xj] at hp;refine wr rfl<|Wp.pick (left:=[]) rfl (fun _=>⟨_,rfl,?_⟩) (fun j hj=>absurd hj (Nat.not_lt_zero j));refine wr rfl<|wl rfl (OY (l:=bJ) (by rw[hp.length_eq];exact b1)) rfl<|Wp.jump rfl ?_;rw[JH hp];exact gr4 (S:=iH l) (by rw[(sL l).length_eq];exact b1) (E.map l5) E.length E [] [] [] rfl gi0 gi0 (by show 0+E.length<=1000000;omega) (fun e he=>⟨(sL l).mem_iff.2 (hE e he).1,(sL l).mem_iff.2 (hE e he).2⟩)
 |k+1,left,bJ,hl,hp=>by
  refine wr rfl<|Wp.pick (left:=left.map eS) rfl (fun e=>by rw[List.map_eq_nil_iff] at e;subst e;cases hl) (fun j hj=> ?_);have pS:j<left.length:=by rw[xm] at hj;exact hj
  refine⟨_,Vi fr fo x1 x2 x3 x4++[.sl (Nd.rs bJ),.sl A,.sl ((left.eraseIdx j).map eS)]++left[j].r++[.bool true,.sl (E.map l5),.sl []],Xl (f:=eS) (g:=fun n=>n.r) (v:= .bool true) (fun _=>rfl) (fun _=>rfl) pS,rfl,?_⟩;have h1:=Og left j pS;have aD:(left.eraseIdx j).length=k:=by have:=h1.length_eq;rw[xi] at this;omega
  generalize left[j]=n at h1⊢;generalize left.eraseIdx j=kz at h1 aD⊢;have aO:(bJ++[n]++kz).Perm l:=by rw[List.append_assoc];exact(h1.append_left bJ).trans hp
  have hb:bJ.length+1<=1000000:=by have:=aO.length_eq;rw[xa,xa] at this;have:bJ.length+1+kz.length=l.length:=this;omega
  have z1:(Nd.rs bJ).length=bJ.length:=xm _;refine wr rfl<|wg 2 rfl<|wo rfl oP ?_;have ih:=gr1 b1 b2 hE A fr fo x1 x2 x3 x4 k kz (bJ++[n]) aD aO;rw[show Nd.rs (bJ++[n])=Nd.rs bJ++[n.r] from List.map_append] at ih;exact Wp.jump rfl ih
theorem aP9{E:yH}{l:Jv}(b1:l.length<=1000000)(b2:E.length<=1000000)(hE:∀e∈E,e.1∈l/\e.2∈l)(fr:kG)(fo:Nat)(x1 x2 x3 x4:Int):
 Rn F X 165 0 (Vi fr fo x1 x2 x3 x4++[.sl (l.map eS),.sl (E.map l5)]) (·=[.sl (Nd.rs (iH l)),.sl (nx E),.sl (nx (E.map z3))]):=by
 exact wr rfl<|wg 2 rfl<|Wp.jump rfl (gr1 b1 b2 hE (l.map eS) fr fo x1 x2 x3 x4 l.length l [] rfl (.refl _))
end
def jh(n:Nd)(l:Jv):Jv:=if n∈l then l else l++[n]
def tD(e:Nd×Nd)(E:yH):yH:=if e∈E then E else E++[e]
theorem O9{n x:Nd}{l:Jv}:x∈jh n l↔x∈l\/x=n:=by
 unfold jh;split
 ·exact⟨.inl,fun h=>h.elim id fun e=>by rw[e];assumption⟩
 ·rw[xF,xy]
theorem aN9{n x:Nd×Nd}{l:yH}:x∈tD n l↔x∈l\/x=n:=by
 unfold tD;split
 ·exact⟨.inl,fun h=>h.elim id fun e=>by rw[e];assumption⟩
 ·rw[xF,xy]
theorem Ys{α:Type}{l:List α}{x:α}(h:l.Nodup)(hx:x∉l):(l++[x]).Nodup:=
 List.nodup_append.2 ⟨h,P6,fun a ha b hb e=>hx (by rw[<-xy.1 hb,<-e];exact ha)⟩
theorem PP{n:Nd}{l:Jv}(h:l.Nodup):(jh n l).Nodup:=by
 unfold jh;split
 ·exact h
 ·exact Ys h ‹_›
theorem aY2{n:Nd×Nd}{l:yH}(h:l.Nodup):(tD n l).Nodup:=by
 unfold tD;split
 ·exact h
 ·exact Ys h ‹_›
theorem Wi(m n:Nd):lY m.r (eS n)=decide (n=m):=Hc m n
theorem KT{m:Nd}:∀{l:Jv},(m∉l->cY m.r (l.map eS)=none)/\(m∈l->∃j,cY m.r (l.map eS)=some j/\l[j]? =some m)
 |[]=>⟨fun _=>rfl,fun h=>nomatch h⟩
 |x::l=>by
  have e:cY m.r ((x::l).map eS)=if lY m.r (eS x) then some 0 else(cY m.r (l.map eS)).map (· +1):=rfl
  rw[e,Wi];by_cases hx:x=m
  ·subst hx;refine⟨fun h=>absurd xn h,fun _=>⟨0,?_,rfl⟩⟩;rw[decide_eq_true rfl,if_pos rfl]
  ·rw[decide_eq_false hx,if_neg Bool.noConfusion];refine⟨fun h=> ?_,fun h=> ?_⟩
   ·rw[KT.1 fun h2=>h (xo _ h2)];rfl
   ·obtain⟨j,h1,h2⟩:=KT.2 ((xG.1 h).elim (fun e=>absurd e.symm hx) id);exact⟨j+1,by rw[h1];rfl,h2⟩
theorem WO{m:Nd}:∀{l:Jv},∃b:Bool,(nI m.r (l.map eS)).getD (.bool false)= .bool b
 |[]=>⟨false,rfl⟩
 |x::l=>by
  have e:nI m.r ((x::l).map eS)=if lY m.r (eS x) then some (.bool true) else nI m.r (l.map eS):=rfl
  rw[e];split
  ·exact⟨true,rfl⟩
  ·exact WO
theorem YR(n:Nd)(l:Jv):∃rows b j,aL (.AU KN) [.sl (l.map eS),.agg n.r,.bool false]=some (.agg [.sl rows,.bool b,jD j])/\aL .vY [.sl rows,jD j,.bool true]=some (.sl ((jh n l).map eS)):=by
 obtain⟨b,hb⟩:=WO (m:=n) (l:=l);have e1:aL (.AU KN) [.sl (l.map eS),.agg n.r,.bool false]=some (.agg [.sl (if(cY n.r (l.map eS)).isSome then l.map eS else l.map eS++[[.agg n.r,.bool false]]),(nI n.r (l.map eS)).getD (.bool false),.int .i64 ((cY n.r (l.map eS)).getD (l.map eS).length:Nat)]):=rfl;have e2:∀(rows:gj) (j:Nat) (k w:D),rows[j]? =some [k,w]->aL .vY [.sl rows,jD j,.bool true]=some (.sl (rows.set j [k,.bool true])):=fun rows j k w h=>by
  show(match rows[j]? with|some [k,_]=>if(D.bool true).cell then some (D.sl (rows.set j [k,.bool true])) else none|_=>none)=_;rw[h];rfl
 unfold jh;by_cases h:n∈l
 ·obtain⟨j,h1,h2⟩:=KT.2 h;refine⟨l.map eS,b,j,?_,?_⟩
  ·rw[e1,hb,h1];rfl
  ·have h3:(l.map eS)[j]? =some (eS n):=by rw[xx,h2];rfl
   rw[if_pos h,e2 _ j (.agg n.r) (.bool true) h3]
   congr 2
   obtain⟨i1,i2⟩:=xe.1 h3;have:[.agg n.r,.bool true]=(l.map eS)[j]:=i2.symm;rw[this,List.set_getElem_self]
 ·have h1:=KT.1 h;refine⟨l.map eS++[[.agg n.r,.bool false]],b,(l.map eS).length,?_,?_⟩
  ·rw[e1,hb,h1];rfl
  ·rw[if_neg h,e2 _ _ (.agg n.r) (.bool false) (by rw[xq (xk _),Nat.sub_self];rfl),List.set_append_right _ _ (xk _),Nat.sub_self,List.map_append];rfl
abbrev KE:Na:=[.u8,.i64,.i64,.u8,.i64,.i64]
theorem aB2(m n:Nd)(e:Nd×Nd):lY (m.r++n.r) (l5 e)=decide (e=(m,n)):=by
 show kD (m.r++n.r) (e.1.r++e.2.r)=_;have h1:=Hc m e.1;have h2:=Hc n e.2;have h3:kD (m.r++n.r) (e.1.r++e.2.r)=(kD m.r e.1.r&&kD n.r e.2.r):=by
  show(decide (m.k=e.1.k)&& (decide (m.a=e.1.a)&& (decide (m.b=e.1.b)&&kD n.r e.2.r)))=((decide (m.k=e.1.k)&& (decide (m.a=e.1.a)&& (decide (m.b=e.1.b)&&true)))&&kD n.r e.2.r);rw[Bool.and_true,Bool.and_assoc,Bool.and_assoc]
 rw[h3,h1,h2,Bool.eq_iff_iff,xf,decide_eq_true_eq,decide_eq_true_eq,decide_eq_true_eq,Prod.ext_iff]
theorem upE(m n:Nd)(E:yH):aL (.uB KE) [.sl (E.map l5),.agg (m.r++n.r),.bool true]=some (.sl ((tD (m,n) E).map l5)):=by
 have e1:aL (.uB KE) [.sl (E.map l5),.agg (m.r++n.r),.bool true]=some (.sl (tP (m.r++n.r) (.bool true) (E.map l5))):=rfl;rw[e1]
 congr 2
 clear e1
 induction E with
 |nil=>rfl
 |cons e E ih=>
  show(if lY (m.r++n.r) (l5 e) then[.agg (m.r++n.r),.bool true]::E.map l5 else l5 e::tP (m.r++n.r) (.bool true) (E.map l5))=_;rw[aB2,ih];unfold tD;by_cases he:e=(m,n)
  ·subst he;rw[decide_eq_true rfl,if_pos rfl,if_pos xn];rfl
  ·rw[decide_eq_false he,if_neg Bool.noConfusion];by_cases hm:(m,n)∈E
   ·rw[if_pos hm,if_pos (xo _ hm)];rfl
   ·rw[if_neg hm,if_neg fun h=>(xG.1 h).elim (fun h=>he h.symm) hm];rfl
theorem xS(n:Nd)(l:Jv):aL (.uB KN) [.sl (l.map eS),.agg n.r,.bool true]=some (.sl ((jh n l).map eS)):=by
 have e1:aL (.uB KN) [.sl (l.map eS),.agg n.r,.bool true]=some (.sl (tP n.r (.bool true) (l.map eS))):=rfl;rw[e1]
 congr 2
 clear e1
 induction l with
 |nil=>rfl
 |cons e l ih=>
  show(if lY n.r (eS e) then[.agg n.r,.bool true]::l.map eS else eS e::tP n.r (.bool true) (l.map eS))=_;rw[Wi,ih];unfold jh;by_cases he:e=n
  ·subst he;rw[decide_eq_true rfl,if_pos rfl,if_pos xn];rfl
  ·rw[decide_eq_false he,if_neg Bool.noConfusion];by_cases hm:n∈l
   ·rw[if_pos hm,if_pos (xo _ hm)];rfl
   ·rw[if_neg hm,if_neg fun h=>(xG.1 h).elim (fun h=>he h.symm) hm];rfl
structure Bd where
 fr:kG
 fo:Nat
 c:Int
 h:Nd
 l:Jv
 E:yH
abbrev Bd.d(b:Bd):kG:=[.ptr b.fr b.fo,iD9 b.c,.int .u8 b.h.k,iD9 b.h.a,iD9 b.h.b,.sl (b.l.map eS),.sl (b.E.map l5)]
def Bd.jl(b:Bd)(e:Nd×Nd):Bd:={b with l:=jh e.2 (jh e.1 b.l),E:=tD e b.E}
def Bd.j9(b:Bd)(es:yH):Bd:=es.foldl Bd.jl b
section
variable{X:fm}{b:Bd}
theorem GD(m n:Nd):Rn F X 121 0 (b.d++m.r++n.r) (·=(b.jl (m,n)).d):=by
 refine wr rfl ?_;obtain⟨r1,b1,j1,k1,k2⟩:=YR m b.l;obtain⟨r2,b2,j2,l1,l2⟩:=YR n (jh m b.l);refine Wp.aV rfl k1 rfl<|wo rfl k2<|Wp.aV rfl l1 rfl<|wo rfl l2 ?_;dsimp only [List.cons_append,List.nil_append];exact wo rfl (upE m n b.E)<|wt rfl rfl
theorem Gn(n:Nd):Rn F X 123 0 (b.d++n.r) (·=(b.jl (n,b.h)).d):=by
 exact wr rfl<|wl rfl (GD n b.h) rfl<|wt rfl rfl
theorem JF(n:Nd):Rn F X 124 0 (b.d++n.r) (·=(b.jl (b.h,n)).d):=by
 exact wr rfl<|wl rfl (GD b.h n) rfl<|wt rfl rfl
theorem XN:Rn F X 125 0 b.d (·=(b.j9 [(⟨2,b.c,0⟩,b.h),(b.h,⟨2,b.c,0⟩)]).d):=by
 exact wr rfl<|wl rfl (Gn (b:=b) ⟨2,b.c,0⟩) rfl<|wl rfl (JF (b:=b.jl (⟨2,b.c,0⟩,b.h)) ⟨2,b.c,0⟩) rfl<|wt rfl rfl
theorem V7(y z:Nd):Rn F X 126 0 (b.d++y.r++z.r) (·=(b.j9 [(b.h,y),(b.h,z),(y,z)]).d):=by
 exact wr rfl<|wl rfl (GD (b:=b) b.h y) rfl<|wl rfl (GD (b:=b.jl (b.h,y)) b.h z) rfl<|wl rfl (GD (b:=(b.jl (b.h,y)).jl (b.h,z)) y z) rfl<|wt rfl rfl
end
open Go.Ex Go.RowKit Go.Fl
variable{X:fm}
theorem sF(l:yy):(bV l).length=l.length:=xm _
theorem PM{m:Mk}{n:Nat}(hn:1<=n):Rn F X 0 0 (m.d++[iD n]) (fun o=>∃k bs,o=iD k::Mk.d {m with bs:=bs}/\k<n/\bs.length<=m.bs.length):=by
 obtain⟨ints,tables,flags,own,ar,params,bs,left⟩:=m;refine Rn.of (fd:=nU) (t:=bK2) rfl rfl rfl rfl (Wp.op rfl bf rfl ?_);cases bs with
 |nil=>exact Wp.dO rfl ay rfl (wt rfl ⟨0,[],rfl,PT,xk _⟩)
 |cons b bs=>
  refine Wp.dF rfl ay (by show ¬(((bV (b::bs)).length:Nat):Int)=0;rw[sF,xi];omega)<|Wp.op rfl rfl rfl (Wp.op rfl rfl rfl (Wp.op rfl (Ed (by have:=b.toNat_lt;omega)) rfl ?_));exact wo rfl (Kh (by simp[bV]) (fun r hr=>by obtain⟨x,_,rfl⟩:=xJ.1 hr;rfl))<|Wp.op rfl (mG .i64 hn) rfl (wt rfl ⟨b.toNat%n,bs,rfl,Nat.mod_lt _ hn,P6⟩)
def kH(c k:Nat):gj:=(List.range k).map fun j=>[.str (nm c j)]
theorem aN6(c k:Nat):kH c (k+1)=kH c k++[[.str (nm c k)]]:=by simp[kH,List.range_succ]
theorem yP(c k:Nat):(kH c k).length=k:=by simp[kH]
theorem nY{c k j:Nat}(h:j<k):(kH c k)[j]? =some [.str (nm c j)]:=by simp[kH,h]
theorem We{c n:Nat}(hc:c<256)(hn:n<=9):∀(f k:Nat),k+f=n->Rn F X 7 1 [bD c,iD n,.sl (kH c k),iD k] (·=[.sl (kH c n)])
 |0,k,h=>by
  obtain rfl:k=n:=PT
  exact Rn.of (fd:=FY) (t:=as3) rfl rfl rfl rfl (Wp.dF rfl ai PT (wt rfl rfl))
 |f+1,k,h=>by
  refine Rn.of (fd:=FY) (t:=as3) rfl rfl rfl rfl (Wp.dO rfl ai PT ?_);refine Wp.op rfl (bm (a:=48) PT) rfl (Wp.op rfl (yZ PT) rfl (Wp.op rfl (aX2 hc PT) rfl ?_));refine Wp.note (Wp.op rfl rfl rfl (Wp.op rfl (gD rfl rfl (by rw[yP];omega) (by rw[yP];omega)) rfl (Wp.op rfl (bm (b:=1) PT) rfl (Wp.jump rfl ?_))));have:=We hc hn f (k+1) PT;rw[aN6] at this;exact this
theorem mA{c n:Nat}(hc:c<256)(hn:n<=9):Rn F X 7 0 [bD c,iD n] (·=[.sl (kH c n)]):=
 Rn.of (fd:=FY) (t:=bK1) rfl rfl rfl rfl (Wp.jump rfl (We hc hn n 0 PT))
section
variable{X:fm}{ints tables flags own params left:Nat}{ar:rQ}
abbrev eA(ints tables flags own:Nat)(ar:rQ)(params:Nat)(bs:yy)(left:Nat):kG:=[iD ints,iD tables,iD flags,iD own,.sl (ey ar),iD params,.sl (bV bs),iD left]
theorem fP{bs:yy}(n:Nat)(hn:1<=n):Rn F X 0 0 [iD ints,iD tables,iD flags,iD own,.sl (ey ar),iD params,.sl (bV bs),iD left,iD n] (fun o=>∃k fJ,o=iD k::eA ints tables flags own ar params fJ left/\k<n/\fJ.length<=bs.length):=
 PM (m:=⟨ints,tables,flags,own,ar,params,bs,left⟩) hn
theorem m9{bs:yy}(h1:1<=ints)(h3:ints<=3):Rn F X 1 0 (eA ints tables flags own ar params bs left) (fun o=>∃k fJ,o= .str (nm 120 k)::eA ints tables flags own ar params fJ left/\k<ints/\fJ.length<=bs.length):=by
 refine wr rfl<|wl rfl (mA (c:=120) (n:=3) PT PT) rfl<|wg 1 rfl<|wx rfl (fP ints h1) ?_;rintro _ ⟨k,fJ,rfl,hk,hb⟩;refine⟨rfl,Wp.op rfl (aA (nY PT) rfl) rfl ?_⟩;exact wg 1 rfl<|wt rfl ⟨k,fJ,rfl,hk,hb⟩
def bL0(ints tables flags own:Nat)(ar:rQ)(params:Nat)(bs:yy)(left f:Nat)(o:kG):Prop:=∃e fJ,o=Ex.r e++eA ints tables flags own ar params fJ left/\fS ⟨ints,tables,flags,params⟩ f e/\fJ.length<=bs.length
theorem Sn{k:Nat}(h:k<6):∃op,11<=op/\op<=15/\aL (.vk 1 0 1 false) [iD k,.int .i64 14,.int .i64 15,.int .i64 11,.int .i64 12,.int .i64 13,.int .i64 14]=some (iD op):=by
 have:k=0\/k=1\/k=2\/k=3\/k=4\/k=5:=PT
 rcases this with rfl|rfl|rfl|rfl|rfl|rfl
 ·exact⟨14,PT,PT,rfl⟩
 ·exact⟨15,PT,PT,rfl⟩
 ·exact⟨11,PT,PT,rfl⟩
 ·exact⟨12,PT,PT,rfl⟩
 ·exact⟨13,PT,PT,rfl⟩
 ·exact⟨14,PT,PT,rfl⟩
theorem fO(h1:1<=ints)(h3:ints<=3)(ht:tables<=1)(hp:params<=2):∀(f d:Nat),d+f=3->∀{bs:yy},Rn F X 2 0 [iD ints,iD tables,iD flags,iD own,.sl (ey ar),iD params,.sl (bV bs),iD left,iD d] (bL0 ints tables flags own ar params bs left f):=by
 intro f
 induction f with
 |zero=>
  intro d hd bs;obtain rfl:d=3:=PT
  refine wr rfl<|wg 1 rfl<|wx rfl (fP 12 PT) fun|_,⟨k,bs,rfl,hk,hb⟩=>⟨rfl,?_⟩
  refine Fe<|Wp.aG rfl ai (fun h=> ?_) (fun h=> ?_)
  ·refine wg 1 rfl<|wx rfl (fP 9 PT) fun|_,⟨k,bs,rfl,hk,hb⟩=>⟨rfl,?_⟩
   exact jL<|wt rfl ⟨.mk 1 [] k [],bs,rfl,.num k PT,PT⟩
  ·refine wg 1 rfl<|Wp.aG rfl cg (fun h=> ?_) (fun h=> ?_)
   ·refine wg 1 rfl<|wx rfl (fP 9 PT) fun|_,⟨k,bs,rfl,hk,hb⟩=>⟨rfl,?_⟩
    exact jL<|wt rfl ⟨.mk 1 [] k [],bs,rfl,.num k PT,PT⟩
   ·refine Wp.aG rfl ai (fun h=> ?_) (fun h=> ?_)
    ·refine wg 1 rfl<|wx rfl (m9 PT PT) fun|_,⟨k,bs,rfl,hk,hb⟩=>⟨rfl,?_⟩
     exact jL<|wt rfl ⟨.mk 5 (nm 120 k) 0 [],bs,rfl,.var k PT,PT⟩
    ·refine Wp.aG rfl ay (fun h=> ?_) (fun h=> ?_)
     ·refine Wp.aG rfl ay (fun h=> ?_) (fun h=> ?_)
      ·refine wg 1 rfl<|wx rfl (m9 PT PT) fun|_,⟨k,bs,rfl,hk,hb⟩=>⟨rfl,?_⟩
       exact jL<|wt rfl ⟨.mk 5 (nm 120 k) 0 [],bs,rfl,.var k PT,PT⟩
      ·refine wy rfl ay<|wl rfl (mA (c:=112) (n:=2) PT PT) rfl<|wg 1 rfl<|wx rfl (fP params PT) fun|_,⟨k,bs,rfl,hk,hb⟩=>⟨rfl,?_⟩
       exact oR<|wo rfl (aA (nY PT) rfl)<|wg 1 rfl<|wt rfl ⟨.mk 5 (nm 112 k) 0 [],bs,rfl,.mm k PT,PT⟩
     ·exact wn rfl ay<|wy rfl ay<|wt rfl ⟨.mk 4 [] 0 [],bs,rfl,.now,PT⟩
 |succ f ih=>
  intro d hd bs;refine wr rfl<|wg 1 rfl<|wx rfl (fP 12 PT) fun|_,⟨k,bs,rfl,hk,hb⟩=>⟨rfl,?_⟩
  refine Fe<|Wp.aG rfl ai (fun h=> ?_) (fun h=> ?_)
  ·refine wg 1 rfl<|wx rfl (fP 9 PT) fun|_,⟨k,bs,rfl,hk,hb⟩=>⟨rfl,?_⟩
   exact jL<|wt rfl ⟨.mk 1 [] k [],bs,rfl,.num k PT,PT⟩
  ·refine wn rfl cg<|Wp.aG rfl ai (fun h=> ?_) (fun h=> ?_)
   ·refine wg 1 rfl<|wx rfl (m9 PT PT) fun|_,⟨k,bs,rfl,hk,hb⟩=>⟨rfl,?_⟩
    exact jL<|wt rfl ⟨.mk 5 (nm 120 k) 0 [],bs,rfl,.var k PT,PT⟩
   ·refine Wp.aG rfl ay (fun h=> ?_) (fun h=> ?_)
    ·refine Wp.aG rfl ay (fun h=> ?_) (fun h=> ?_)
     ·refine wg 1 rfl<|wx rfl (m9 PT PT) fun|_,⟨k,bs,rfl,hk,hb⟩=>⟨rfl,?_⟩
      exact jL<|wt rfl ⟨.mk 5 (nm 120 k) 0 [],bs,rfl,.var k PT,PT⟩
     ·refine wy rfl ay<|wl rfl (mA (c:=112) (n:=2) PT PT) rfl<|wg 1 rfl<|wx rfl (fP params PT) fun|_,⟨k,bs,rfl,hk,hb⟩=>⟨rfl,?_⟩
      exact oR<|wo rfl (aA (nY PT) rfl)<|wg 1 rfl<|wt rfl ⟨.mk 5 (nm 112 k) 0 [],bs,rfl,.mm k PT,PT⟩
    ·refine wn rfl ay<|Wp.aG rfl ay (fun h=> ?_) (fun h=> ?_)
     ·exact wt rfl ⟨.mk 4 [] 0 [],bs,rfl,.now,PT⟩
     ·refine Wp.aG rfl ay (fun h=> ?_) (fun h=> ?_)
      ·refine Wp.aG rfl cg (fun h=> ?_) (fun h=> ?_)
       ·refine wo rfl oI<|wg 1 rfl<|wx rfl (ih (d+1) PT) fun|_,⟨⟨o1,n1,i1,a1⟩,bs,rfl,bc,bY⟩=>⟨rfl,?_⟩
        exact ol<|wg 1 rfl<|wt rfl ⟨.mk 6 (nm 116 0) 0 [⟨o1,n1,i1,a1⟩],bs,rfl,.get (by show 0<tables;omega) bc,PT⟩
       ·refine wn rfl ay<|wn rfl ay<|wg 1 rfl<|wx rfl (fP 6 PT) fun|_,⟨k,bs,rfl,hk,hb⟩=>⟨rfl,?_⟩
        refine jL<|wy rfl qL ?_
        (obtain⟨op,ru,gT,ho⟩:=Sn hk;refine Wp.op rfl ho rfl ?_)
        refine wo rfl oI<|wg 1 rfl<|wx rfl (ih (d+1) PT) fun|_,⟨⟨o1,n1,i1,a1⟩,bs,rfl,bc,bY⟩=>⟨rfl,?_⟩
        dsimp only [eA,Ex.r,St.r,List.cons_append,List.nil_append];refine wo rfl oI<|wg 1 rfl ?_
        (have _:=bc;refine wx rfl (ih (d+1) PT) ?_;rintro _ ⟨⟨o2,n2,i2,a2⟩,bs,rfl,ij,bM⟩;refine⟨rfl,?_⟩)
        exact MT<|wg 1 rfl<|wt rfl ⟨.mk op [] 0 [⟨o1,n1,i1,a1⟩,⟨o2,n2,i2,a2⟩],bs,rfl,.bin op ru gT bc ij,PT⟩
      ·refine Wp.aG rfl ay (fun h=> ?_) (fun h=> ?_)
       ·refine Wp.aG rfl cg (fun h=> ?_) (fun h=> ?_)
        ·exact wt rfl ⟨.mk 8 (nm 116 0) 0 [],bs,rfl,.size (by show 0<tables;omega),PT⟩
        ·refine wn rfl ay<|wg 1 rfl<|wx rfl (fP 6 PT) fun|_,⟨k,bs,rfl,hk,hb⟩=>⟨rfl,?_⟩
         refine jL<|wy rfl qL ?_
         (obtain⟨op,ru,gT,ho⟩:=Sn hk;refine Wp.op rfl ho rfl ?_)
         refine wo rfl oI<|wg 1 rfl<|wx rfl (ih (d+1) PT) fun|_,⟨⟨o1,n1,i1,a1⟩,bs,rfl,bc,bY⟩=>⟨rfl,?_⟩
         dsimp only [eA,Ex.r,St.r,List.cons_append,List.nil_append];refine wo rfl oI<|wg 1 rfl ?_
         (have _:=bc;refine wx rfl (ih (d+1) PT) ?_;rintro _ ⟨⟨o2,n2,i2,a2⟩,bs,rfl,ij,bM⟩;refine⟨rfl,?_⟩)
         exact MT<|wg 1 rfl<|wt rfl ⟨.mk op [] 0 [⟨o1,n1,i1,a1⟩,⟨o2,n2,i2,a2⟩],bs,rfl,.bin op ru gT bc ij,PT⟩
       ·refine Wp.aG rfl ay (fun h=> ?_) (fun h=> ?_)
        ·refine wo rfl oI<|wg 1 rfl<|wx rfl (ih (d+1) PT) fun|_,⟨⟨o1,n1,i1,a1⟩,bs,rfl,bc,bY⟩=>⟨rfl,?_⟩
         exact ol<|wg 1 rfl<|wt rfl ⟨.mk 9 [] 0 [⟨o1,n1,i1,a1⟩],bs,rfl,.neg bc,PT⟩
        ·refine wg 1 rfl<|wx rfl (fP 6 PT) fun|_,⟨k,bs,rfl,hk,hb⟩=>⟨rfl,?_⟩
         refine jL<|wy rfl qL ?_
         (obtain⟨op,ru,gT,ho⟩:=Sn hk;refine Wp.op rfl ho rfl ?_)
         refine wo rfl oI<|wg 1 rfl<|wx rfl (ih (d+1) PT) fun|_,⟨⟨o1,n1,i1,a1⟩,bs,rfl,bc,bY⟩=>⟨rfl,?_⟩
         dsimp only [eA,Ex.r,St.r,List.cons_append,List.nil_append];refine wo rfl oI<|wg 1 rfl ?_
         (have _:=bc;refine wx rfl (ih (d+1) PT) ?_;rintro _ ⟨⟨o2,n2,i2,a2⟩,bs,rfl,ij,bM⟩;refine⟨rfl,?_⟩)
         exact MT<|wg 1 rfl<|wt rfl ⟨.mk op [] 0 [⟨o1,n1,i1,a1⟩,⟨o2,n2,i2,a2⟩],bs,rfl,.bin op ru gT bc ij,PT⟩
end
section
variable{X:fm}{ints tables flags own params left:Nat}{ar:rQ}
theorem rR:∀(l:List Fl.Ex),(Ex.rs l).length=l.length
 |[]=>rfl
 |e::l=>by show(Ex.rs l).length+1=_;rw[rR l];rfl
theorem Ya:∀(l:List Fl.Ex) (e:Fl.Ex),Ex.rs l++[Ex.r e]=Ex.rs (l++[e])
 |[],e=>rfl
 |a::l,e=>by show Ex.r a::(Ex.rs l++[Ex.r e])=_;rw[Ya l e];rfl
def ag6(ints tables flags own:Nat)(ar:rQ)(params:Nat)(bs:yy)(left n:Nat)(o:kG):Prop:=∃es fJ,o= .sl (Ex.rs es)::eA ints tables flags own ar params fJ left/\(∀e∈es,fS ⟨ints,tables,flags,params⟩ 3 e)/\es.length=n/\fJ.length<=bs.length
theorem aw4(h1:1<=ints)(h3:ints<=3)(ht:tables<=1)(hp:params<=2){n:Nat}(hn:n<=9):∀(f:Nat) (es:List Fl.Ex) (bs:yy),es.length+f=n->(∀e∈es,fS ⟨ints,tables,flags,params⟩ 3 e)->Rn F X 3 1 (iD n:: .sl (Ex.rs es)::iD es.length::eA ints tables flags own ar params bs left) (ag6 ints tables flags own ar params bs left n):=by
 intro f
 induction f with
 |zero=>
  intro es bs hf he;exact wr rfl<|wn rfl ai<|wt rfl ⟨es,bs,rfl,he,PT,PT⟩
 |succ f ih=>
  intro es bs hf he;refine wr rfl<|wy rfl ai<|wg 1 rfl<|wx rfl (fO h1 h3 ht hp 2 1 PT) fun|_,⟨⟨o1,n1,i1,a1⟩,bs,rfl,bc,bY⟩=>⟨rfl,?_⟩
  refine qi<|wg 2 rfl<|wo rfl (gD rfl rfl (by rw[rR];omega) (by rw[rR];omega))<|wo rfl oI<|Wp.jump rfl ?_;have:=ih (es++[⟨o1,n1,i1,a1⟩]) bs Qo (fun e h=>by
   rcases xF.1 h with h|h
   ·exact he e h
   ·rw[xy] at h;subst h;exact bc.mono PT)
  rw[<-Ya,xa] at this;exact this.mono fun o ⟨es',fJ,h1,h2,h3,h4⟩=>⟨es',fJ,h1,h2,h3,PT⟩
theorem AD(h1:1<=ints)(h3:ints<=3)(ht:tables<=1)(hp:params<=2){n:Nat}(hn:n<=9){bs:yy}:Rn F X 3 0 [iD ints,iD tables,iD flags,iD own,.sl (ey ar),iD params,.sl (bV bs),iD left,iD n] (ag6 ints tables flags own ar params bs left n):=by
 refine wr rfl<|Wp.jump rfl ?_;exact aw4 h1 h3 ht hp hn n [] bs P6 P6
def bK9(ints tables flags own:Nat)(ar:rQ)(params:Nat)(bs:yy)(left f:Nat)(o:kG):Prop:=∃e fJ,o=Ex.r e++eA ints tables flags own ar params fJ left/\ka ⟨ints,tables,flags,params⟩ f e/\fJ.length<=bs.length
theorem Gl(h1:1<=ints)(h3:ints<=3)(ht:tables<=1)(bE:flags<=2)(hp:params<=2):∀(f d:Nat),d+f=2->∀{bs:yy},Rn F X 4 0 [iD ints,iD tables,iD flags,iD own,.sl (ey ar),iD params,.sl (bV bs),iD left,iD d] (bK9 ints tables flags own ar params bs left (f+3)):=by
 intro f
 induction f with
 |zero=>
  intro d hd bs;obtain rfl:d=2:=PT
  refine wr rfl<|wg 1 rfl<|wx rfl (fP 10 PT) fun|_,⟨k,bs,rfl,hk,hb⟩=>⟨rfl,?_⟩
  refine Fe<|Wp.aG rfl ay (fun h=> ?_) (fun h=> ?_)
  ·refine wg 1 rfl<|wx rfl (fP 2 PT) fun|_,⟨k,bs,rfl,hk,hb⟩=>⟨rfl,?_⟩
   exact jL<|wo rfl oI<|wt rfl ⟨.mk (2+k) [] 0 [],bs,rfl,.lit _ PT PT,PT⟩
  ·refine Wp.aG rfl ay (fun h=> ?_) (fun h=> ?_)
   ·exact wt rfl ⟨.mk 5 (nm 98 0) 0 [],bs,rfl,.b0,PT⟩
   ·refine wg 1 rfl<|Wp.aG rfl cg (fun h=> ?_) (fun h=> ?_)
    ·exact wt rfl ⟨.mk 5 (nm 98 0) 0 [],bs,rfl,.b0,PT⟩
    ·refine Wp.aG rfl ay (fun h=> ?_) (fun h=> ?_)
     ·refine Wp.aG rfl cg (fun h=> ?_) (fun h=> ?_)
      ·refine wl rfl (mA (c:=102) (n:=2) PT PT) rfl<|wg 1 rfl<|wx rfl (fP flags PT) fun|_,⟨k,bs,rfl,hk,hb⟩=>⟨rfl,?_⟩
       exact oR<|wo rfl (aA (nY PT) rfl)<|wg 1 rfl<|wt rfl ⟨.mk 5 (nm 102 k) 0 [],bs,rfl,.flag k PT,PT⟩
      ·refine wn rfl ay<|wn rfl ay<|wn rfl ay<|wn rfl ay<|wg 1 rfl<|wx rfl (fP 6 PT) fun|_,⟨k,bs,rfl,hk,hb⟩=>⟨rfl,?_⟩
       refine jL<|wo rfl oI<|wg 1 rfl<|wx rfl (fO h1 h3 ht hp 2 1 PT) fun|_,⟨⟨o1,n1,i1,a1⟩,bs,rfl,bc,bY⟩=>⟨rfl,?_⟩
       refine mR<|wg 1 rfl ?_
       (have _:=bc;refine wx rfl (fO h1 h3 ht hp 2 1 PT) ?_;rintro _ ⟨⟨o2,n2,i2,a2⟩,bs,rfl,ij,bM⟩;refine⟨rfl,?_⟩)
       exact vd<|wg 1 rfl<|wt rfl ⟨.mk (16+k) [] 0 [⟨o1,n1,i1,a1⟩,⟨o2,n2,i2,a2⟩],bs,rfl,.cmp _ PT PT bc ij,PT⟩
     ·refine Wp.aG rfl ay (fun h=> ?_) (fun h=> ?_)
      ·refine Wp.aG rfl cg (fun h=> ?_) (fun h=> ?_)
       ·refine wg 1 rfl<|wx rfl (fO h1 h3 ht hp 2 1 PT) fun|_,⟨⟨o1,n1,i1,a1⟩,bs,rfl,bc,bY⟩=>⟨rfl,?_⟩
        exact pH<|wg 1 rfl<|wt rfl ⟨.mk 7 (nm 116 0) 0 [⟨o1,n1,i1,a1⟩],bs,rfl,.has (by show 0<tables;omega) bc,PT⟩
       ·refine wn rfl ay<|wn rfl ay<|wn rfl ay<|wg 1 rfl<|wx rfl (fP 6 PT) fun|_,⟨k,bs,rfl,hk,hb⟩=>⟨rfl,?_⟩
        refine jL<|wo rfl oI<|wg 1 rfl<|wx rfl (fO h1 h3 ht hp 2 1 PT) fun|_,⟨⟨o1,n1,i1,a1⟩,bs,rfl,bc,bY⟩=>⟨rfl,?_⟩
        refine mR<|wg 1 rfl ?_
        (have _:=bc;refine wx rfl (fO h1 h3 ht hp 2 1 PT) ?_;rintro _ ⟨⟨o2,n2,i2,a2⟩,bs,rfl,ij,bM⟩;refine⟨rfl,?_⟩)
        exact vd<|wg 1 rfl<|wt rfl ⟨.mk (16+k) [] 0 [⟨o1,n1,i1,a1⟩,⟨o2,n2,i2,a2⟩],bs,rfl,.cmp _ PT PT bc ij,PT⟩
      ·refine wn rfl ay<|wn rfl ay<|wn rfl ay<|wg 1 rfl<|wx rfl (fP 6 PT) fun|_,⟨k,bs,rfl,hk,hb⟩=>⟨rfl,?_⟩
       refine jL<|wo rfl oI<|wg 1 rfl<|wx rfl (fO h1 h3 ht hp 2 1 PT) fun|_,⟨⟨o1,n1,i1,a1⟩,bs,rfl,bc,bY⟩=>⟨rfl,?_⟩
       refine mR<|wg 1 rfl ?_
       (have _:=bc;refine wx rfl (fO h1 h3 ht hp 2 1 PT) ?_;rintro _ ⟨⟨o2,n2,i2,a2⟩,bs,rfl,ij,bM⟩;refine⟨rfl,?_⟩)
       exact vd<|wg 1 rfl<|wt rfl ⟨.mk (16+k) [] 0 [⟨o1,n1,i1,a1⟩,⟨o2,n2,i2,a2⟩],bs,rfl,.cmp _ PT PT bc ij,PT⟩
 |succ f ih=>
  intro d hd bs;refine wr rfl<|wg 1 rfl<|wx rfl (fP 10 PT) fun|_,⟨k,bs,rfl,hk,hb⟩=>⟨rfl,?_⟩
  refine Fe<|Wp.aG rfl ay (fun h=> ?_) (fun h=> ?_)
  ·refine wg 1 rfl<|wx rfl (fP 2 PT) fun|_,⟨k,bs,rfl,hk,hb⟩=>⟨rfl,?_⟩
   exact jL<|wo rfl oI<|wt rfl ⟨.mk (2+k) [] 0 [],bs,rfl,.lit _ PT PT,PT⟩
  ·refine Wp.aG rfl ay (fun h=> ?_) (fun h=> ?_)
   ·exact wt rfl ⟨.mk 5 (nm 98 0) 0 [],bs,rfl,.b0,PT⟩
   ·refine wn rfl cg<|Wp.aG rfl ay (fun h=> ?_) (fun h=> ?_)
    ·refine Wp.aG rfl cg (fun h=> ?_) (fun h=> ?_)
     ·refine wl rfl (mA (c:=102) (n:=2) PT PT) rfl<|wg 1 rfl<|wx rfl (fP flags PT) fun|_,⟨k,bs,rfl,hk,hb⟩=>⟨rfl,?_⟩
      exact oR<|wo rfl (aA (nY PT) rfl)<|wg 1 rfl<|wt rfl ⟨.mk 5 (nm 102 k) 0 [],bs,rfl,.flag k PT,PT⟩
     ·refine wn rfl ay<|wn rfl ay<|wn rfl ay<|wn rfl ay<|wg 1 rfl<|wx rfl (fP 6 PT) fun|_,⟨k,bs,rfl,hk,hb⟩=>⟨rfl,?_⟩
      refine jL<|wo rfl oI<|wg 1 rfl<|wx rfl (fO h1 h3 ht hp 2 1 PT) fun|_,⟨⟨o1,n1,i1,a1⟩,bs,rfl,bc,bY⟩=>⟨rfl,?_⟩
      refine mR<|wg 1 rfl ?_
      (have _:=bc;refine wx rfl (fO h1 h3 ht hp 2 1 PT) ?_;rintro _ ⟨⟨o2,n2,i2,a2⟩,bs,rfl,ij,bM⟩;refine⟨rfl,?_⟩)
      exact vd<|wg 1 rfl<|wt rfl ⟨.mk (16+k) [] 0 [⟨o1,n1,i1,a1⟩,⟨o2,n2,i2,a2⟩],bs,rfl,.cmp _ PT PT (bc.mono PT) (ij.mono PT),PT⟩
    ·refine Wp.aG rfl ay (fun h=> ?_) (fun h=> ?_)
     ·refine Wp.aG rfl cg (fun h=> ?_) (fun h=> ?_)
      ·refine wg 1 rfl<|wx rfl (fO h1 h3 ht hp 2 1 PT) fun|_,⟨⟨o1,n1,i1,a1⟩,bs,rfl,bc,bY⟩=>⟨rfl,?_⟩
       exact pH<|wg 1 rfl<|wt rfl ⟨.mk 7 (nm 116 0) 0 [⟨o1,n1,i1,a1⟩],bs,rfl,.has (by show 0<tables;omega) (bc.mono PT),PT⟩
      ·refine wn rfl ay<|wn rfl ay<|wn rfl ay<|wg 1 rfl<|wx rfl (fP 6 PT) fun|_,⟨k,bs,rfl,hk,hb⟩=>⟨rfl,?_⟩
       refine jL<|wo rfl oI<|wg 1 rfl<|wx rfl (fO h1 h3 ht hp 2 1 PT) fun|_,⟨⟨o1,n1,i1,a1⟩,bs,rfl,bc,bY⟩=>⟨rfl,?_⟩
       refine mR<|wg 1 rfl ?_
       (have _:=bc;refine wx rfl (fO h1 h3 ht hp 2 1 PT) ?_;rintro _ ⟨⟨o2,n2,i2,a2⟩,bs,rfl,ij,bM⟩;refine⟨rfl,?_⟩)
       exact vd<|wg 1 rfl<|wt rfl ⟨.mk (16+k) [] 0 [⟨o1,n1,i1,a1⟩,⟨o2,n2,i2,a2⟩],bs,rfl,.cmp _ PT PT (bc.mono PT) (ij.mono PT),PT⟩
     ·refine Wp.aG rfl ay (fun h=> ?_) (fun h=> ?_)
      ·refine wo rfl oI<|wg 1 rfl<|wx rfl (ih (d+1) PT) fun|_,⟨⟨o1,n1,i1,a1⟩,bs,rfl,bc,bY⟩=>⟨rfl,?_⟩
       exact ol<|wg 1 rfl<|wt rfl ⟨.mk 10 [] 0 [⟨o1,n1,i1,a1⟩],bs,rfl,.not bc,PT⟩
      ·refine Wp.aG rfl ay (fun h=> ?_) (fun h=> ?_)
       ·refine wo rfl oI<|wg 1 rfl<|wx rfl (ih (d+1) PT) fun|_,⟨⟨o1,n1,i1,a1⟩,bs,rfl,bc,bY⟩=>⟨rfl,?_⟩
        refine ol<|wo rfl oI<|wo rfl oI<|wg 1 rfl ?_
        (have _:=bc;refine wx rfl (ih (d+1) PT) ?_;rintro _ ⟨⟨o2,n2,i2,a2⟩,bs,rfl,ij,bM⟩;refine⟨rfl,?_⟩)
        dsimp only [eA,Ex.r,St.r,List.cons_append,List.nil_append];exact wg 1 rfl<|wt rfl ⟨.mk (16+k) [] 0 [⟨o1,n1,i1,a1⟩,⟨o2,n2,i2,a2⟩],bs,rfl,.C4 _ PT PT bc ij,PT⟩
       ·refine Wp.aG rfl ay (fun h=> ?_) (fun h=> ?_)
        ·refine wo rfl oI<|wg 1 rfl<|wx rfl (ih (d+1) PT) fun|_,⟨⟨o1,n1,i1,a1⟩,bs,rfl,bc,bY⟩=>⟨rfl,?_⟩
         refine ol<|wo rfl oI<|wo rfl oI<|wg 1 rfl ?_
         (have _:=bc;refine wx rfl (ih (d+1) PT) ?_;rintro _ ⟨⟨o2,n2,i2,a2⟩,bs,rfl,ij,bM⟩;refine⟨rfl,?_⟩)
         dsimp only [eA,Ex.r,St.r,List.cons_append,List.nil_append];exact wg 1 rfl<|wt rfl ⟨.mk (16+k) [] 0 [⟨o1,n1,i1,a1⟩,⟨o2,n2,i2,a2⟩],bs,rfl,.C4 _ PT PT bc ij,PT⟩
        ·refine wg 1 rfl<|wx rfl (fP 6 PT) fun|_,⟨k,bs,rfl,hk,hb⟩=>⟨rfl,?_⟩
         refine jL<|wo rfl oI<|wg 1 rfl<|wx rfl (fO h1 h3 ht hp 2 1 PT) fun|_,⟨⟨o1,n1,i1,a1⟩,bs,rfl,bc,bY⟩=>⟨rfl,?_⟩
         refine mR<|wg 1 rfl ?_
         (have _:=bc;refine wx rfl (fO h1 h3 ht hp 2 1 PT) ?_;rintro _ ⟨⟨o2,n2,i2,a2⟩,bs,rfl,ij,bM⟩;refine⟨rfl,?_⟩)
         exact vd<|wg 1 rfl<|wt rfl ⟨.mk (16+k) [] 0 [⟨o1,n1,i1,a1⟩,⟨o2,n2,i2,a2⟩],bs,rfl,.cmp _ PT PT (bc.mono PT) (ij.mono PT),PT⟩
end
end Go.Proofs.YthicpeihkkokmaaGreatDoor
namespace Go.Fl
mutual
def St.n:St->Nat| .mk _ _ _ _ th el=>1+St.ns th+St.ns el
def St.ns:KP->Nat|[]=>0|s::l=>St.n s+St.ns l
end
def St.sub:St->Nat| .mk _ _ _ _ th el=>St.ns th+St.ns el
end Go.Fl
namespace Go.Proofs.YthicpeihkkokmaaGreatDoor
open Go.Ex Go.RowKit Go.Fl
section
variable{X:fm}{ints tables flags own params:Nat}{ar:rQ}
theorem nX:∀(l:KP),(St.rs l).length=l.length
 |[]=>rfl
 |e::l=>by show(St.rs l).length+1=_;rw[nX l];rfl
theorem OX:∀(l:KP) (e:St),St.rs l++[St.r e]=St.rs (l++[e])
 |[],e=>rfl
 |a::l,e=>by show St.r a::(St.rs l++[St.r e])=_;rw[OX l e];rfl
theorem PK:∀(l:KP) (e:St),St.ns (l++[e])=St.ns l+(1+St.sub e)
 |[],.mk .. =>by simp[St.ns,St.n,St.sub];omega
 |a::l,e=>by simp[St.ns,PK l e];omega
theorem nj:∀(l:KP),l.length<=St.ns l
 |[]=>xk _
 | .mk .. ::l=>by have:=nj l;simp[St.ns,St.n];omega
theorem Yb(l:List Fl.Ex):∀row∈Ex.rs l,row.length=4/\row.all D.cell=true:=by
 induction l with
 |nil=>intro row h;cases h
 |cons e l ih=>
  obtain⟨op,nm,n,a⟩:=e;intro row h;rcases xG.1 h with rfl|h
  ·exact⟨rfl,rfl⟩
  ·exact ih row h
def lO(l:uo):gj:=l.map fun n=>[iD n]
theorem AZ(ar:rQ):(ey ar).length=ar.length:=xm _
theorem BM{k:Nat}(h:k<(ey ar).length)(cS:∀l∈ar,1<=l.length/\l.length<=3/\∀n∈l,n<=2):∃l,ar[k]? =some l/\(ey ar)[k]? =some [.sl (lO l)]/\1<=(lO l).length/\(lO l).length<=3/\∀n∈l,n<=2:=by
 have hk:k<ar.length:=by rw[<-AZ];exact h
 have he:ar[k]? =some ar[k]:=xc hk;refine⟨ar[k],he,?_,?_⟩
 ·show(ar.map _)[k]? =_;rw[xx,he];rfl
 ·have:=cS ar[k] (List.getElem_mem hk);rw[show(lO ar[k]).length=ar[k].length from xm _];exact this
theorem Bn{l:uo}{k:Nat}(h:k<(lO l).length)(hl:∀n∈l,n<=2):∃n,l[k]? =some n/\(lO l)[k]? =some [iD n]/\n<=2:=by
 have hk:k<l.length:=by rw[<-show(lO l).length=l.length from xm _];exact h
 have he:l[k]? =some l[k]:=xc hk;refine⟨l[k],he,?_,hl _ (List.getElem_mem hk)⟩;show(l.map _)[k]? =_;rw[xx,he];rfl
theorem Mg{α:Type}:∀{l:List α},l.length=2->∃a b,l=[a,b]
 |[a,b],_=>⟨a,b,rfl⟩
theorem H3{k:Nat}(h:k<3):aL (.vk 1 0 1 false) [iD k,.str [97],.str [98],.str [99]]=some (.str [(97+k).toUInt8]):=by
 have:k=0\/k=1\/k=2:=PT
 rcases this with rfl|rfl|rfl<;>rfl
def bA6(ints tables flags own:Nat)(ar:rQ)(params:Nat)(bs:yy)(left f:Nat)(o:kG):Prop:=∃s fJ kz,o=St.r s++eA ints tables flags own ar params fJ kz/\ma ⟨⟨ints,tables,flags,params⟩,ar,own⟩ (j8 ⟨⟨ints,tables,flags,params⟩,ar,own⟩ f) s/\fJ.length<=bs.length/\kz+St.sub s<=left
def R6(ints tables flags own:Nat)(ar:rQ)(params:Nat)(bs:yy)(left f:Nat)(o:kG):Prop:=∃l fJ kz,o= .sl (St.rs l)::eA ints tables flags own ar params fJ kz/\j8 ⟨⟨ints,tables,flags,params⟩,ar,own⟩ (f+1) l/\fJ.length<=bs.length/\kz+St.ns l<=left
theorem aU7(h1:1<=ints)(h3:ints<=3)(ht:tables<=1)(bE:flags<=2)(hp:params<=2)(kB:own<(ey ar).length)(gX:(ey ar).length<=3)(cS:∀l∈ar,1<=l.length/\l.length<=3/\∀n∈l,n<=2){L:Nat}
 (ih:∀(d f:Nat),d+f=3->∀(bs:yy) (left:Nat),left<=L->Rn F X 6 0 [iD ints,iD tables,iD flags,iD own,.sl (ey ar),iD params,.sl (bV bs),iD left,iD d] (R6 ints tables flags own ar params bs left f)):
 ∀(d f:Nat),d+f=3->∀(kk:Nat) (bs:yy) (left:Nat),kk<14->left<=L->Rn F X 5 0 [iD ints,iD tables,iD flags,iD own,.sl (ey ar),iD params,.sl (bV bs),iD left,iD kk,iD d] (bA6 ints tables flags own ar params bs left f):=by
 intro d f hd kk bs left gU By;cases f with
 |zero=>
  refine wr rfl<|Wp.aG rfl ay (fun h=> ?_) (fun h=> ?_)
  ·refine wg 1 rfl<|wx rfl (Gl h1 h3 ht bE hp 2 0 PT) fun|_,⟨⟨o1,n1,i1,a1⟩,bs,rfl,bc,bY⟩=>⟨rfl,?_⟩
   exact kj<|wg 1 rfl<|wt rfl ⟨.mk 1 (nm 98 0) [] [⟨o1,n1,i1,a1⟩] [] [],bs,left,rfl,.BS bc,PT,by simp[St.sub,St.ns]⟩
  ·refine Wp.aG rfl ay (fun h=> ?_) (fun h=> ?_)
   ·refine Wp.aG rfl cg (fun h=> ?_) (fun h=> ?_)
    ·refine wg 1 rfl<|wx rfl (fO h1 h3 ht hp 3 0 PT) fun|_,⟨⟨o1,n1,i1,a1⟩,bs,rfl,bc,bY⟩=>⟨rfl,?_⟩
     refine kj<|wg 1 rfl ?_
     (have _:=bc;refine wx rfl (fO h1 h3 ht hp 3 0 PT) ?_;rintro _ ⟨⟨o2,n2,i2,a2⟩,bs,rfl,ij,bM⟩;refine⟨rfl,?_⟩)
     exact MV<|wg 1 rfl<|wt rfl ⟨.mk 2 (nm 116 0) [] [⟨o1,n1,i1,a1⟩,⟨o2,n2,i2,a2⟩] [] [],bs,left,rfl,.put (by show 0<tables;omega) bc ij,PT,by simp[St.sub,St.ns]⟩
    ·refine wn rfl ay<|wn rfl ay<|wn rfl ay<|wn rfl ay<|wn rfl ay<|wn rfl ay<|wn rfl ay<|wn rfl ay<|wn rfl ay<|wg 1 rfl<|wx rfl (m9 PT PT) fun|_,⟨ki,bs,rfl,iJ,hb⟩=>⟨rfl,?_⟩
     refine gS<|wg 1 rfl<|wx rfl (fO h1 h3 ht hp 3 0 PT) fun|_,⟨⟨o1,n1,i1,a1⟩,bs,rfl,bc,bY⟩=>⟨rfl,?_⟩
     exact ol<|wg 1 rfl<|wt rfl ⟨.mk 1 (nm 120 ki) [] [⟨o1,n1,i1,a1⟩] [] [],bs,left,rfl,.nz ki iJ bc,PT,by simp[St.sub,St.ns]⟩
   ·refine Wp.aG rfl ay (fun h=> ?_) (fun h=> ?_)
    ·refine Wp.aG rfl cg (fun h=> ?_) (fun h=> ?_)
     ·refine wg 1 rfl<|wx rfl (fO h1 h3 ht hp 3 0 PT) fun|_,⟨⟨o1,n1,i1,a1⟩,bs,rfl,bc,bY⟩=>⟨rfl,?_⟩
      exact kj<|wg 1 rfl<|wt rfl ⟨.mk 3 (nm 116 0) [] [⟨o1,n1,i1,a1⟩] [] [],bs,left,rfl,.del (by show 0<tables;omega) bc,PT,by simp[St.sub,St.ns]⟩
     ·refine wn rfl ay<|wn rfl ay<|wn rfl ay<|wn rfl ay<|wn rfl ay<|wn rfl ay<|wn rfl ay<|wn rfl ay<|wg 1 rfl<|wx rfl (m9 PT PT) fun|_,⟨ki,bs,rfl,iJ,hb⟩=>⟨rfl,?_⟩
      refine gS<|wg 1 rfl<|wx rfl (fO h1 h3 ht hp 3 0 PT) fun|_,⟨⟨o1,n1,i1,a1⟩,bs,rfl,bc,bY⟩=>⟨rfl,?_⟩
      exact ol<|wg 1 rfl<|wt rfl ⟨.mk 1 (nm 120 ki) [] [⟨o1,n1,i1,a1⟩] [] [],bs,left,rfl,.nz ki iJ bc,PT,by simp[St.sub,St.ns]⟩
    ·refine Wp.aG rfl ay (fun h=> ?_) (fun h=> ?_)
     ·refine wn rfl ai<|wn rfl ay<|wn rfl ay<|wn rfl ay<|wn rfl ay<|wn rfl ay<|wn rfl ay<|wg 1 rfl<|wx rfl (m9 PT PT) fun|_,⟨ki,bs,rfl,iJ,hb⟩=>⟨rfl,?_⟩
      refine gS<|wg 1 rfl<|wx rfl (fO h1 h3 ht hp 3 0 PT) fun|_,⟨⟨o1,n1,i1,a1⟩,bs,rfl,bc,bY⟩=>⟨rfl,?_⟩
      exact ol<|wg 1 rfl<|wt rfl ⟨.mk 1 (nm 120 ki) [] [⟨o1,n1,i1,a1⟩] [] [],bs,left,rfl,.nz ki iJ bc,PT,by simp[St.sub,St.ns]⟩
     ·refine Wp.aG rfl ay (fun h=> ?_) (fun h=> ?_)
      ·refine wn rfl ai<|wn rfl ay<|wn rfl ay<|wn rfl ay<|wn rfl ay<|wn rfl ay<|wn rfl ay<|wg 1 rfl<|wx rfl (m9 PT PT) fun|_,⟨ki,bs,rfl,iJ,hb⟩=>⟨rfl,?_⟩
       refine gS<|wg 1 rfl<|wx rfl (fO h1 h3 ht hp 3 0 PT) fun|_,⟨⟨o1,n1,i1,a1⟩,bs,rfl,bc,bY⟩=>⟨rfl,?_⟩
       exact ol<|wg 1 rfl<|wt rfl ⟨.mk 1 (nm 120 ki) [] [⟨o1,n1,i1,a1⟩] [] [],bs,left,rfl,.nz ki iJ bc,PT,by simp[St.sub,St.ns]⟩
      ·refine Wp.aG rfl ay (fun h=> ?_) (fun h=> ?_)
       ·refine wn rfl ai<|wn rfl ay<|wn rfl ay<|wn rfl ay<|wn rfl ay<|wn rfl ay<|wg 1 rfl<|wx rfl (m9 PT PT) fun|_,⟨ki,bs,rfl,iJ,hb⟩=>⟨rfl,?_⟩
        refine gS<|wg 1 rfl<|wx rfl (fO h1 h3 ht hp 3 0 PT) fun|_,⟨⟨o1,n1,i1,a1⟩,bs,rfl,bc,bY⟩=>⟨rfl,?_⟩
        exact ol<|wg 1 rfl<|wt rfl ⟨.mk 1 (nm 120 ki) [] [⟨o1,n1,i1,a1⟩] [] [],bs,left,rfl,.nz ki iJ bc,PT,by simp[St.sub,St.ns]⟩
       ·refine Wp.aG rfl ay (fun h=> ?_) (fun h=> ?_)
        ·refine wo rfl bf<|wg 1 rfl<|wx rfl (fP (ey ar).length PT) fun|_,⟨to,bs,rfl,tX,hb⟩=>⟨rfl,?_⟩
         refine mf ?_
         (obtain⟨l,hl,lq,gg,dQ,aW⟩:=BM tX cS;refine Wp.op rfl (aA lq rfl) rfl ?_)
         refine wg 1 rfl<|wo rfl bf<|wg 1 rfl<|wx rfl (fP (lO l).length PT) fun|_,⟨hh,bs,rfl,uc,hb⟩=>⟨rfl,?_⟩
         refine jn<|Wp.dO rfl (qL (n:=3)) (xK tX gX)<|wo rfl (H3 PT)<|wo rfl (aA (by assumption) rfl)<|wg 1 rfl ?_
         (obtain⟨n,hn,lU,gf⟩:=Bn uc aW;refine Wp.op rfl (aA lU rfl) rfl ?_)
         refine wg 1 rfl<|wl rfl (mA (c:=104) (n:=3) PT PT) rfl<|wo rfl (aA (nY PT) rfl)<|wg 2 rfl<|wx rfl (AD h1 h3 ht hp (n:=n) PT) fun|_,⟨es,bs,rfl,dS,fX,bM⟩=>⟨rfl,?_⟩
         exact MU<|wt rfl ⟨.mk 6 [(97+to).toUInt8] (nm 104 hh) es [] [],bs,left,rfl,.send to hh n hl hn dS fX,PT,by simp[St.sub,St.ns]⟩
        ·refine Wp.aG rfl ay (fun h=> ?_) (fun h=> ?_)
         ·refine wo rfl bf<|wg 1 rfl<|wx rfl (fP (ey ar).length PT) fun|_,⟨to,bs,rfl,tX,hb⟩=>⟨rfl,?_⟩
          refine mf ?_
          (obtain⟨l,hl,lq,gg,dQ,aW⟩:=BM tX cS;refine Wp.op rfl (aA lq rfl) rfl ?_)
          refine wg 1 rfl<|wo rfl bf<|wg 1 rfl<|wx rfl (fP (lO l).length PT) fun|_,⟨hh,bs,rfl,uc,hb⟩=>⟨rfl,?_⟩
          refine jn<|Wp.dO rfl (qL (n:=3)) (xK tX gX)<|wo rfl (H3 PT)<|wo rfl (aA (by assumption) rfl)<|wg 1 rfl ?_
          (obtain⟨n,hn,lU,gf⟩:=Bn uc aW;refine Wp.op rfl (aA lU rfl) rfl ?_)
          refine wg 1 rfl<|wl rfl (mA (c:=104) (n:=3) PT PT) rfl<|wo rfl (aA (nY PT) rfl)<|wg 2 rfl<|wx rfl (AD h1 h3 ht hp (n:=n) PT) fun|_,⟨es,bs,rfl,dS,fX,bM⟩=>⟨rfl,?_⟩
          exact MU<|wt rfl ⟨.mk 6 [(97+to).toUInt8] (nm 104 hh) es [] [],bs,left,rfl,.send to hh n hl hn dS fX,PT,by simp[St.sub,St.ns]⟩
         ·refine Wp.aG rfl ay (fun h=> ?_) (fun h=> ?_)
          ·(obtain⟨l,hl,lq,gg,dQ,aW⟩:=BM kB cS;refine Wp.op rfl (aA lq rfl) rfl ?_)
           refine wg 1 rfl<|wo rfl bf<|wg 1 rfl<|wx rfl (fP (lO l).length PT) fun|_,⟨hh,bs,rfl,uc,hb⟩=>⟨rfl,?_⟩
           refine kj<|wg 1 rfl<|wx rfl (fO h1 h3 ht hp 2 1 PT) fun|_,⟨⟨o1,n1,i1,a1⟩,bs,rfl,bc,bY⟩=>⟨rfl,?_⟩
           refine MV<|wo rfl (aA (by assumption) rfl)<|wg 1 rfl ?_
           (obtain⟨n,hn,lU,gf⟩:=Bn uc aW;refine Wp.op rfl (aA lU rfl) rfl ?_)
           refine wg 1 rfl<|wl rfl (mA (c:=104) (n:=3) PT PT) rfl<|wo rfl (aA (nY PT) rfl)<|wg 2 rfl<|wx rfl (AD h1 h3 ht hp (n:=n) PT) fun|_,⟨es,bs,rfl,dS,fX,bM⟩=>⟨rfl,?_⟩
           dsimp only [eA,Ex.r,St.r,List.cons_append,List.nil_append];exact wg 1 rfl<|wo rfl (Bb (Yb _) (by rw[rR,fX];show 1+n<=_;omega) (by rw[rR,fX];show(1+n)*56<=_;omega))<|wt rfl ⟨.mk 7 [] (nm 104 hh) (⟨o1,n1,i1,a1⟩::es) [] [],bs,left,rfl,.Ci hh n hl hn (fun e h=>by rcases xG.1 h with rfl|h;exact bc.mono PT;exact dS e h) (by rw[xi,fX]),PT,by simp[St.sub,St.ns]⟩
          ·refine Wp.aG rfl ay (fun h=> ?_) (fun h=> ?_)
           ·refine wn rfl ai<|wn rfl ay<|wg 1 rfl<|wx rfl (m9 PT PT) fun|_,⟨ki,bs,rfl,iJ,hb⟩=>⟨rfl,?_⟩
            refine gS<|wg 1 rfl<|wx rfl (fO h1 h3 ht hp 3 0 PT) fun|_,⟨⟨o1,n1,i1,a1⟩,bs,rfl,bc,bY⟩=>⟨rfl,?_⟩
            exact ol<|wg 1 rfl<|wt rfl ⟨.mk 1 (nm 120 ki) [] [⟨o1,n1,i1,a1⟩] [] [],bs,left,rfl,.nz ki iJ bc,PT,by simp[St.sub,St.ns]⟩
           ·refine Wp.aG rfl ay (fun h=> ?_) (fun h=> ?_)
            ·refine wg 1 rfl<|wx rfl (fP 3 PT) fun|_,⟨k,bs,rfl,hk,hb⟩=>⟨rfl,?_⟩
             refine gS<|Wp.aG rfl ay (fun h=> ?_) (fun h=> ?_)
             ·exact wt rfl ⟨.mk 10 [] [] [] [] [],bs,left,rfl,.stop,PT,by simp[St.sub,St.ns]⟩
             ·refine wg 1 rfl<|wx rfl (m9 PT PT) fun|_,⟨ki,bs,rfl,iJ,hb⟩=>⟨rfl,?_⟩
              refine oR<|wg 1 rfl<|wx rfl (fO h1 h3 ht hp 3 0 PT) fun|_,⟨⟨o1,n1,i1,a1⟩,bs,rfl,bc,bY⟩=>⟨rfl,?_⟩
              exact mR<|wg 1 rfl<|wt rfl ⟨.mk 1 (nm 120 ki) [] [⟨o1,n1,i1,a1⟩] [] [],bs,left,rfl,.nz ki iJ bc,PT,by simp[St.sub,St.ns]⟩
            ·refine wg 1 rfl<|wx rfl (m9 PT PT) fun|_,⟨ki,bs,rfl,iJ,hb⟩=>⟨rfl,?_⟩
             refine gS<|wg 1 rfl<|wx rfl (fO h1 h3 ht hp 3 0 PT) fun|_,⟨⟨o1,n1,i1,a1⟩,bs,rfl,bc,bY⟩=>⟨rfl,?_⟩
             exact ol<|wg 1 rfl<|wt rfl ⟨.mk 1 (nm 120 ki) [] [⟨o1,n1,i1,a1⟩] [] [],bs,left,rfl,.nz ki iJ bc,PT,by simp[St.sub,St.ns]⟩
 |succ f=>
  refine wr rfl<|Wp.aG rfl ay (fun h=> ?_) (fun h=> ?_)
  ·refine wg 1 rfl<|wx rfl (Gl h1 h3 ht bE hp 2 0 PT) fun|_,⟨⟨o1,n1,i1,a1⟩,bs,rfl,bc,bY⟩=>⟨rfl,?_⟩
   exact kj<|wg 1 rfl<|wt rfl ⟨.mk 1 (nm 98 0) [] [⟨o1,n1,i1,a1⟩] [] [],bs,left,rfl,.BS bc,PT,by simp[St.sub,St.ns]⟩
  ·refine Wp.aG rfl ay (fun h=> ?_) (fun h=> ?_)
   ·refine Wp.aG rfl cg (fun h=> ?_) (fun h=> ?_)
    ·refine wg 1 rfl<|wx rfl (fO h1 h3 ht hp 3 0 PT) fun|_,⟨⟨o1,n1,i1,a1⟩,bs,rfl,bc,bY⟩=>⟨rfl,?_⟩
     refine kj<|wg 1 rfl ?_
     (have _:=bc;refine wx rfl (fO h1 h3 ht hp 3 0 PT) ?_;rintro _ ⟨⟨o2,n2,i2,a2⟩,bs,rfl,ij,bM⟩;refine⟨rfl,?_⟩)
     exact MV<|wg 1 rfl<|wt rfl ⟨.mk 2 (nm 116 0) [] [⟨o1,n1,i1,a1⟩,⟨o2,n2,i2,a2⟩] [] [],bs,left,rfl,.put (by show 0<tables;omega) bc ij,PT,by simp[St.sub,St.ns]⟩
    ·refine wn rfl ay<|wn rfl ay<|wn rfl ay<|wn rfl ay<|wn rfl ay<|wn rfl ay<|wn rfl ay<|wn rfl ay<|wn rfl ay<|wg 1 rfl<|wx rfl (m9 PT PT) fun|_,⟨ki,bs,rfl,iJ,hb⟩=>⟨rfl,?_⟩
     refine gS<|wg 1 rfl<|wx rfl (fO h1 h3 ht hp 3 0 PT) fun|_,⟨⟨o1,n1,i1,a1⟩,bs,rfl,bc,bY⟩=>⟨rfl,?_⟩
     exact ol<|wg 1 rfl<|wt rfl ⟨.mk 1 (nm 120 ki) [] [⟨o1,n1,i1,a1⟩] [] [],bs,left,rfl,.nz ki iJ bc,PT,by simp[St.sub,St.ns]⟩
   ·refine Wp.aG rfl ay (fun h=> ?_) (fun h=> ?_)
    ·refine Wp.aG rfl cg (fun h=> ?_) (fun h=> ?_)
     ·refine wg 1 rfl<|wx rfl (fO h1 h3 ht hp 3 0 PT) fun|_,⟨⟨o1,n1,i1,a1⟩,bs,rfl,bc,bY⟩=>⟨rfl,?_⟩
      exact kj<|wg 1 rfl<|wt rfl ⟨.mk 3 (nm 116 0) [] [⟨o1,n1,i1,a1⟩] [] [],bs,left,rfl,.del (by show 0<tables;omega) bc,PT,by simp[St.sub,St.ns]⟩
     ·refine wn rfl ay<|wn rfl ay<|wn rfl ay<|wn rfl ay<|wn rfl ay<|wn rfl ay<|wn rfl ay<|wn rfl ay<|wg 1 rfl<|wx rfl (m9 PT PT) fun|_,⟨ki,bs,rfl,iJ,hb⟩=>⟨rfl,?_⟩
      refine gS<|wg 1 rfl<|wx rfl (fO h1 h3 ht hp 3 0 PT) fun|_,⟨⟨o1,n1,i1,a1⟩,bs,rfl,bc,bY⟩=>⟨rfl,?_⟩
      exact ol<|wg 1 rfl<|wt rfl ⟨.mk 1 (nm 120 ki) [] [⟨o1,n1,i1,a1⟩] [] [],bs,left,rfl,.nz ki iJ bc,PT,by simp[St.sub,St.ns]⟩
    ·refine Wp.aG rfl ay (fun h=> ?_) (fun h=> ?_)
     ·refine wy rfl ai<|wg 1 rfl<|wx rfl (Gl h1 h3 ht bE hp 2 0 PT) fun|_,⟨⟨o1,n1,i1,a1⟩,bs,rfl,bc,bY⟩=>⟨rfl,?_⟩
      refine kj<|wo rfl oI<|wg 1 rfl<|wx rfl (ih (d+1) f PT _ _ PT) fun|_,⟨th,bs,left,rfl,li,Mo,Mn⟩=>⟨rfl,?_⟩
      refine jn<|wo rfl oI<|wg 1 rfl ?_
      (have _:=li;refine wx rfl (ih (d+1) f PT _ _ PT) ?_;rintro _ ⟨el,bs,left,rfl,fX,bH6,bH5⟩;refine⟨rfl,?_⟩)
      dsimp only [eA,Ex.r,St.r,List.cons_append,List.nil_append];exact wg 1 rfl<|wt rfl ⟨.mk 4 [] [] [⟨o1,n1,i1,a1⟩] th el,bs,left,rfl,.cond bc li fX,PT,by show _+(St.ns th+St.ns el)<=_;omega⟩
     ·refine Wp.aG rfl ay (fun h=> ?_) (fun h=> ?_)
      ·refine wy rfl ai<|wg 1 rfl<|wx rfl (Gl h1 h3 ht bE hp 2 0 PT) fun|_,⟨⟨o1,n1,i1,a1⟩,bs,rfl,bc,bY⟩=>⟨rfl,?_⟩
       refine kj<|wo rfl oI<|wg 1 rfl<|wx rfl (ih (d+1) f PT _ _ PT) fun|_,⟨th,bs,left,rfl,li,Mo,Mn⟩=>⟨rfl,?_⟩
       refine jn<|wo rfl oI<|wg 1 rfl ?_
       (have _:=li;refine wx rfl (ih (d+1) f PT _ _ PT) ?_;rintro _ ⟨el,bs,left,rfl,fX,bH6,bH5⟩;refine⟨rfl,?_⟩)
       dsimp only [eA,Ex.r,St.r,List.cons_append,List.nil_append];exact wg 1 rfl<|wt rfl ⟨.mk 4 [] [] [⟨o1,n1,i1,a1⟩] th el,bs,left,rfl,.cond bc li fX,PT,by show _+(St.ns th+St.ns el)<=_;omega⟩
      ·refine Wp.aG rfl ay (fun h=> ?_) (fun h=> ?_)
       ·refine Wp.aG rfl ai (fun h=> ?_) (fun h=> ?_)
        ·refine wg 1 rfl<|wx rfl (Gl h1 h3 ht bE hp 2 0 PT) fun|_,⟨⟨o1,n1,i1,a1⟩,bs,rfl,bc,bY⟩=>⟨rfl,?_⟩
         refine kj<|wo rfl oI<|wg 1 rfl<|wx rfl (ih (d+1) f PT _ _ PT) fun|_,⟨th,bs,left,rfl,li,Mo,Mn⟩=>⟨rfl,?_⟩
         exact jn<|wg 1 rfl<|wt rfl ⟨.mk 5 [] [] [⟨o1,n1,i1,a1⟩] th [],bs,left,rfl,.EB bc li,PT,by show _+(St.ns th+0)<=_;omega⟩
        ·refine wn rfl ay<|wn rfl ay<|wn rfl ay<|wn rfl ay<|wn rfl ay<|wg 1 rfl<|wx rfl (m9 PT PT) fun|_,⟨ki,bs,rfl,iJ,hb⟩=>⟨rfl,?_⟩
         refine gS<|wg 1 rfl<|wx rfl (fO h1 h3 ht hp 3 0 PT) fun|_,⟨⟨o1,n1,i1,a1⟩,bs,rfl,bc,bY⟩=>⟨rfl,?_⟩
         exact ol<|wg 1 rfl<|wt rfl ⟨.mk 1 (nm 120 ki) [] [⟨o1,n1,i1,a1⟩] [] [],bs,left,rfl,.nz ki iJ bc,PT,by simp[St.sub,St.ns]⟩
       ·refine Wp.aG rfl ay (fun h=> ?_) (fun h=> ?_)
        ·refine wo rfl bf<|wg 1 rfl<|wx rfl (fP (ey ar).length PT) fun|_,⟨to,bs,rfl,tX,hb⟩=>⟨rfl,?_⟩
         refine mf ?_
         (obtain⟨l,hl,lq,gg,dQ,aW⟩:=BM tX cS;refine Wp.op rfl (aA lq rfl) rfl ?_)
         refine wg 1 rfl<|wo rfl bf<|wg 1 rfl<|wx rfl (fP (lO l).length PT) fun|_,⟨hh,bs,rfl,uc,hb⟩=>⟨rfl,?_⟩
         refine jn<|Wp.dO rfl (qL (n:=3)) (xK tX gX)<|wo rfl (H3 PT)<|wo rfl (aA (by assumption) rfl)<|wg 1 rfl ?_
         (obtain⟨n,hn,lU,gf⟩:=Bn uc aW;refine Wp.op rfl (aA lU rfl) rfl ?_)
         refine wg 1 rfl<|wl rfl (mA (c:=104) (n:=3) PT PT) rfl<|wo rfl (aA (nY PT) rfl)<|wg 2 rfl<|wx rfl (AD h1 h3 ht hp (n:=n) PT) fun|_,⟨es,bs,rfl,dS,fX,bM⟩=>⟨rfl,?_⟩
         exact MU<|wt rfl ⟨.mk 6 [(97+to).toUInt8] (nm 104 hh) es [] [],bs,left,rfl,.send to hh n hl hn dS fX,PT,by simp[St.sub,St.ns]⟩
        ·refine Wp.aG rfl ay (fun h=> ?_) (fun h=> ?_)
         ·refine wo rfl bf<|wg 1 rfl<|wx rfl (fP (ey ar).length PT) fun|_,⟨to,bs,rfl,tX,hb⟩=>⟨rfl,?_⟩
          refine mf ?_
          (obtain⟨l,hl,lq,gg,dQ,aW⟩:=BM tX cS;refine Wp.op rfl (aA lq rfl) rfl ?_)
          refine wg 1 rfl<|wo rfl bf<|wg 1 rfl<|wx rfl (fP (lO l).length PT) fun|_,⟨hh,bs,rfl,uc,hb⟩=>⟨rfl,?_⟩
          refine jn<|Wp.dO rfl (qL (n:=3)) (xK tX gX)<|wo rfl (H3 PT)<|wo rfl (aA (by assumption) rfl)<|wg 1 rfl ?_
          (obtain⟨n,hn,lU,gf⟩:=Bn uc aW;refine Wp.op rfl (aA lU rfl) rfl ?_)
          refine wg 1 rfl<|wl rfl (mA (c:=104) (n:=3) PT PT) rfl<|wo rfl (aA (nY PT) rfl)<|wg 2 rfl<|wx rfl (AD h1 h3 ht hp (n:=n) PT) fun|_,⟨es,bs,rfl,dS,fX,bM⟩=>⟨rfl,?_⟩
          exact MU<|wt rfl ⟨.mk 6 [(97+to).toUInt8] (nm 104 hh) es [] [],bs,left,rfl,.send to hh n hl hn dS fX,PT,by simp[St.sub,St.ns]⟩
         ·refine Wp.aG rfl ay (fun h=> ?_) (fun h=> ?_)
          ·(obtain⟨l,hl,lq,gg,dQ,aW⟩:=BM kB cS;refine Wp.op rfl (aA lq rfl) rfl ?_)
           refine wg 1 rfl<|wo rfl bf<|wg 1 rfl<|wx rfl (fP (lO l).length PT) fun|_,⟨hh,bs,rfl,uc,hb⟩=>⟨rfl,?_⟩
           refine kj<|wg 1 rfl<|wx rfl (fO h1 h3 ht hp 2 1 PT) fun|_,⟨⟨o1,n1,i1,a1⟩,bs,rfl,bc,bY⟩=>⟨rfl,?_⟩
           refine MV<|wo rfl (aA (by assumption) rfl)<|wg 1 rfl ?_
           (obtain⟨n,hn,lU,gf⟩:=Bn uc aW;refine Wp.op rfl (aA lU rfl) rfl ?_)
           refine wg 1 rfl<|wl rfl (mA (c:=104) (n:=3) PT PT) rfl<|wo rfl (aA (nY PT) rfl)<|wg 2 rfl<|wx rfl (AD h1 h3 ht hp (n:=n) PT) fun|_,⟨es,bs,rfl,dS,fX,bM⟩=>⟨rfl,?_⟩
           dsimp only [eA,Ex.r,St.r,List.cons_append,List.nil_append];exact wg 1 rfl<|wo rfl (Bb (Yb _) (by rw[rR,fX];show 1+n<=_;omega) (by rw[rR,fX];show(1+n)*56<=_;omega))<|wt rfl ⟨.mk 7 [] (nm 104 hh) (⟨o1,n1,i1,a1⟩::es) [] [],bs,left,rfl,.Ci hh n hl hn (fun e h=>by rcases xG.1 h with rfl|h;exact bc.mono PT;exact dS e h) (by rw[xi,fX]),PT,by simp[St.sub,St.ns]⟩
          ·refine Wp.aG rfl ay (fun h=> ?_) (fun h=> ?_)
           ·refine wy rfl ai<|wg 1 rfl<|wx rfl (fP 2 PT) fun|_,⟨k,bs,rfl,hk,hb⟩=>⟨rfl,?_⟩
            refine gS<|Wp.aG rfl ay (fun h=> ?_) (fun h=> ?_)
            ·refine wg 1 rfl<|wx rfl (AD h1 h3 ht hp (n:=2) PT) fun|_,⟨es,bs,rfl,dS,fX,bM⟩=>⟨rfl,?_⟩
             refine oR<|wo rfl oI<|wg 1 rfl<|wx rfl (ih (d+1) f PT _ _ PT) fun|_,⟨th,bs,left,rfl,li,Mo,Mn⟩=>⟨rfl,?_⟩
             refine Fc ?_
             (obtain⟨a,b,rfl⟩:=Mg fX;exact wt rfl ⟨.mk 8 [] [] [a,b] [] th,bs,left,rfl,.store (dS a P6) (dS b P6) li,PT,by show _+(0+St.ns th)<=_;omega⟩)
            ·refine wg 1 rfl<|wx rfl (m9 PT PT) fun|_,⟨ki,bs,rfl,iJ,hb⟩=>⟨rfl,?_⟩
             refine oR<|wg 1 rfl<|wx rfl (fO h1 h3 ht hp 3 0 PT) fun|_,⟨⟨o1,n1,i1,a1⟩,bs,rfl,bc,bY⟩=>⟨rfl,?_⟩
             refine mR<|wo rfl oI<|wg 1 rfl<|wx rfl (ih (d+1) f PT _ _ PT) fun|_,⟨th,bs,left,rfl,li,Mo,Mn⟩=>⟨rfl,?_⟩
             dsimp only [eA,Ex.r,St.r,List.cons_append,List.nil_append];exact wg 1 rfl<|wt rfl ⟨.mk 9 (nm 120 ki) [] [⟨o1,n1,i1,a1⟩] [] th,bs,left,rfl,.Eo ki iJ bc li,PT,by show _+(0+St.ns th)<=_;omega⟩
           ·refine Wp.aG rfl ay (fun h=> ?_) (fun h=> ?_)
            ·refine wg 1 rfl<|wx rfl (fP 3 PT) fun|_,⟨k,bs,rfl,hk,hb⟩=>⟨rfl,?_⟩
             refine gS<|Wp.aG rfl ay (fun h=> ?_) (fun h=> ?_)
             ·exact wt rfl ⟨.mk 10 [] [] [] [] [],bs,left,rfl,.stop,PT,by simp[St.sub,St.ns]⟩
             ·refine wg 1 rfl<|wx rfl (m9 PT PT) fun|_,⟨ki,bs,rfl,iJ,hb⟩=>⟨rfl,?_⟩
              refine oR<|wg 1 rfl<|wx rfl (fO h1 h3 ht hp 3 0 PT) fun|_,⟨⟨o1,n1,i1,a1⟩,bs,rfl,bc,bY⟩=>⟨rfl,?_⟩
              exact mR<|wg 1 rfl<|wt rfl ⟨.mk 1 (nm 120 ki) [] [⟨o1,n1,i1,a1⟩] [] [],bs,left,rfl,.nz ki iJ bc,PT,by simp[St.sub,St.ns]⟩
            ·refine wg 1 rfl<|wx rfl (m9 PT PT) fun|_,⟨ki,bs,rfl,iJ,hb⟩=>⟨rfl,?_⟩
             refine gS<|wg 1 rfl<|wx rfl (fO h1 h3 ht hp 3 0 PT) fun|_,⟨⟨o1,n1,i1,a1⟩,bs,rfl,bc,bY⟩=>⟨rfl,?_⟩
             exact ol<|wg 1 rfl<|wt rfl ⟨.mk 1 (nm 120 ki) [] [⟨o1,n1,i1,a1⟩] [] [],bs,left,rfl,.nz ki iJ bc,PT,by simp[St.sub,St.ns]⟩
theorem aI4(h1:1<=ints)(h3:ints<=3)(ht:tables<=1)(bE:flags<=2)(hp:params<=2)(kB:own<(ey ar).length)(gX:(ey ar).length<=3)(cS:∀l∈ar,1<=l.length/\l.length<=3/\∀n∈l,n<=2):
 ∀(L:Nat),L<=12->∀(d f:Nat),d+f=3->∀(l:KP) (bs:yy) (left:Nat),left<=L->left+St.ns l<=12->j8 ⟨⟨ints,tables,flags,params⟩,ar,own⟩ (f+1) l->Rn F X 6 1 (iD d:: .sl (St.rs l)::eA ints tables flags own ar params bs left) (fun o=>∃l' fJ kz,o= .sl (St.rs l')::eA ints tables flags own ar params fJ kz/\j8 ⟨⟨ints,tables,flags,params⟩,ar,own⟩ (f+1) l'/\fJ.length<=bs.length/\kz+St.ns l'<=left+St.ns l):=by
 intro L
 induction L with
 |zero=>
  intro hL d f hd l bs left hl hn hb;obtain rfl:left=0:=PT
  refine wr rfl<|wo rfl bf<|Wp.aG rfl cg (fun h=> ?_) (fun h=> ?_)
  ·exact wg 1 rfl<|wt rfl ⟨l,bs,0,rfl,hb,PT,PT⟩
  ·exact wt rfl ⟨l,bs,0,rfl,hb,PT,PT⟩
 |succ L ih=>
  intro hL d f hd l bs left hl hn hb;have ihb:∀(d f:Nat),d+f=3->∀(bs:yy) (left:Nat),left<=L->Rn F X 6 0 [iD ints,iD tables,iD flags,iD own,.sl (ey ar),iD params,.sl (bV bs),iD left,iD d] (R6 ints tables flags own ar params bs left f):=by
   intro d f hd bs left hl;refine wr rfl<|Wp.jump rfl ?_;refine(ih PT d f hd [] bs left hl (by show left+0<=12;omega) (fun s h=>by cases h)).mono ?_;rintro _ ⟨l',fJ,kz,rfl,q1,q2,q3⟩;exact⟨l',fJ,kz,rfl,q1,q2,q3⟩
  have bg:=nj l;refine wr rfl<|wo rfl bf<|Wp.aG rfl cg (fun h=> ?_) (fun h=> ?_)
  ·refine Wp.aG rfl cg (fun h=> ?_) (fun h=> ?_)
   ·refine wg 1 rfl<|wx rfl (fP 14 PT) fun|_,⟨k,bs,rfl,hk,hkb⟩=>⟨rfl,?_⟩
    refine mf<|Wp.aG rfl ay (fun h=> ?_) (fun h=> ?_)
    ·exact wt rfl ⟨l,bs,left,rfl,hb,PT,PT⟩
    ·refine wo rfl oW<|wg 1 rfl<|wx rfl (aU7 h1 h3 ht bE hp kB gX cS ihb d f hd k _ _ hk PT) fun|_,⟨⟨kk,n1,n2,es,th,el⟩,bs,Eg,rfl,hs,hsb,hsn⟩=>⟨rfl,?_⟩
     dsimp only [eA,Ex.r,St.r,List.cons_append,List.nil_append];refine wg 2 rfl<|wo rfl (gD rfl rfl (by rw[nX];omega) (by rw[nX];omega))<|Wp.jump rfl (Rn.mono (ds:=iD d:: .sl (St.rs l++[St.r ⟨kk,n1,n2,es,th,el⟩])::eA ints tables flags own ar params bs Eg) (by rw[OX];exact ih PT d f hd _ bs Eg PT (by rw[PK];omega) (fun s h=>by rcases xF.1 h with h|h;exact hb s h;rw[xy] at h;subst h;exact hs)) (by rintro _ ⟨l',fJ,kz,rfl,q1,q2,q3⟩;rw[PK] at q3;exact⟨l',fJ,kz,rfl,q1,PT,PT⟩))
   ·exact wt rfl ⟨l,bs,left,rfl,hb,PT,PT⟩
  ·exact wt rfl ⟨l,bs,left,rfl,hb,PT,PT⟩
theorem bc7(h1:1<=ints)(h3:ints<=3)(ht:tables<=1)(bE:flags<=2)(hp:params<=2)(kB:own<(ey ar).length)(gX:(ey ar).length<=3)(cS:∀l∈ar,1<=l.length/\l.length<=3/\∀n∈l,n<=2){bs:yy}{left:Nat}(hl:left<=12):Rn F X 6 0 [iD ints,iD tables,iD flags,iD own,.sl (ey ar),iD params,.sl (bV bs),iD left,iD 0] (R6 ints tables flags own ar params bs left 3):=by
 refine wr rfl<|Wp.jump rfl ?_;refine(aI4 h1 h3 ht bE hp kB gX cS 12 PT 0 3 PT [] bs left hl (by show left+0<=12;omega) (fun s h=>by cases h)).mono ?_;rintro _ ⟨l',fJ,kz,rfl,q1,q2,q3⟩;exact⟨l',fJ,kz,rfl,q1,q2,q3⟩
end
end Go.Proofs.YthicpeihkkokmaaGreatDoor
namespace Go.Fl
open Go.Ex
structure Cd where
 params:UInt8
 bytes:yy
structure Pt where
 ints:UInt8
 tables:UInt8
 hs:List Cd
 second:List Cd
def Cd.d(c:Cd):kG:=[bD c.params.toNat,.sl (bV c.bytes)]
def Pt.d(p:Pt):kG:=[bD p.ints.toNat,bD p.tables.toNat,.sl (p.hs.map Cd.d),.sl (p.second.map Cd.d)]
def aP(c k:Nat):Mm:=(List.range k).map (nm c)
structure sh (ints tables flags own:Nat) (ar:rQ) (al:uo) (k:Nat) (h:Hn):Prop where
 name:h.name=nm 104 k
 mm:∃n,al[k]? =some n/\h.params=aP 112 n/\j8 ⟨⟨ints,tables,flags,n⟩,ar,own⟩ 4 h.body
 n:St.ns h.body<=12
end Go.Fl
namespace Go.Proofs.YthicpeihkkokmaaGreatDoor
open Go.Ex Go.RowKit Go.Fl
section
variable{X:fm}
theorem BL{α:Type}{f:α->kG}{l:List α}{i:Nat}(h:i<(l.map f).length):∃a,l[i]? =some a/\(l.map f)[i]? =some (f a):=by
 have hi:i<l.length:=by rw[<-xm f];exact h
 exact⟨l[i],xc hi,by rw[xx,xc hi];rfl⟩
theorem yJ(a b:Nat):Rn F X 8 0 [jD a,jD b] (·=[jD (min a b)]):=by
 refine wr rfl<|Wp.aG rfl ai (fun h=> ?_) (fun h=> ?_)
 ·exact wt rfl (by show[jD a]=_;rw[Nat.min_eq_left PT])
 ·exact wt rfl (by show[jD b]=_;rw[Nat.min_eq_right PT])
theorem O7(l:uo)(n:Nat):lO l++[[iD n]]=lO (l++[n]):=by simp[lO]
theorem AT(l:uo):(lO l).length=l.length:=xm _
def ArQ(p:Pt)(o:kG):Prop:=∃l,o=[.sl (lO l)]/\l.length=min 3 (max 1 (max p.hs.length p.second.length))/\∀n∈l,n<=2
theorem aD2(p:Pt):∀(f i:Nat),i+f=3->∀(l:uo),l.length=min i (max 1 (max p.hs.length p.second.length))->(∀n∈l,n<=2)->Rn F X 9 1 (.sl (lO l)::iD i::[bD p.ints.toNat,bD p.tables.toNat,.sl (p.hs.map Cd.d),.sl (p.second.map Cd.d)]) (ArQ p):=by
 intro f
 induction f with
 |zero=>
  intro i hi l hl hn;obtain rfl:i=3:=PT
  exact wr rfl<|wg 1 rfl<|wt rfl ⟨l,rfl,hl,hn⟩
 |succ f ih=>
  intro i hi l hl hn;obtain⟨pi,pt,hs,second⟩:=p;have hA:(hs.map Cd.d).length=hs.length:=xm _;have hB:(second.map Cd.d).length=second.length:=xm _;dsimp only at hl ih⊢;have fj:l.length=min i (max 1 (max hs.length second.length)):=hl;refine wr rfl<|wy rfl ai<|wo rfl bf<|Wp.aG rfl ai (fun h=> ?_) (fun h=> ?_)
  ·(obtain⟨a,ha,hd⟩:=BL (f:=Cd.d) (l:=hs) (i:=i) PT;refine Wp.op rfl (aA hd rfl) rfl ?_)
   refine wg 2 rfl<|oq<|wo rfl (mG (b:=3) .u8 PT)<|wo rfl oC<|wg 2 rfl<|wo rfl (gD rfl rfl (by rw[AT];omega) (by rw[AT];omega))<|nL<|wo rfl oA ?_
   (have:=ih (i+1) PT (l++[a.params.toNat%3]) Qo (fun n h=>by rcases xF.1 h with h|h;exact hn n h;rw[xy] at h;omega);rw[<-O7] at this;exact Wp.jump rfl this)
  ·refine Wp.aG rfl ay (fun h=> ?_) (fun h=> ?_)
   ·refine wg 2 rfl<|wo rfl (gD rfl rfl (by rw[AT];omega) (by rw[AT];omega))<|wo rfl oA<|oq ?_
    (have:=ih (i+1) PT (l++[1]) Qo (fun n h=>by rcases xF.1 h with h|h;exact hn n h;rw[xy] at h;omega);rw[<-O7] at this;exact Wp.jump rfl this)
   ·refine wo rfl bf<|Wp.aG rfl ai (fun h=> ?_) (fun h=> ?_)
    ·(obtain⟨a,ha,hd⟩:=BL (f:=Cd.d) (l:=second) (i:=i) PT;refine Wp.op rfl (aA hd rfl) rfl ?_)
     refine wg 1 rfl<|oq<|wg 1 rfl<|wo rfl (mG (b:=3) .u8 PT)<|wo rfl oC<|wg 2 rfl<|nL<|wo rfl (gD rfl rfl (by rw[AT];omega) (by rw[AT];omega))<|wo rfl oA ?_
     (have:=ih (i+1) PT (l++[a.params.toNat%3]) Qo (fun n h=>by rcases xF.1 h with h|h;exact hn n h;rw[xy] at h;omega);rw[<-O7] at this;exact Wp.jump rfl this)
    ·exact wo rfl oA<|Wp.jump rfl (ih (i+1) PT l (by show l.length=min (i+1) (max 1 (max hs.length second.length));omega) hn)
theorem aS8(p:Pt):Rn F X 9 0 p.d (ArQ p):=by
 obtain⟨pi,pt,hs,second⟩:=p;refine wr rfl<|Wp.jump rfl ?_;exact aD2 ⟨pi,pt,hs,second⟩ 3 0 PT [] P6 (fun n h=>by cases h)
theorem az4(l:yy)(k:Nat):(bV l).take k=bV (l.take k):=by simp[bV,List.map_take]
variable{ints tables flags own:Nat}{ar:rQ}
def HsQ(ints tables flags own:Nat)(ar:rQ)(al:uo)(m:Nat)(o:kG):Prop:=∃(hs:List Hn) (params:Nat) (bs:yy) (left:Nat),o= .sl (hs.map Hn.r)::eA ints tables flags own ar params bs left/\hs.length=m/\∀k h,hs[k]? =some h->sh ints tables flags own ar al k h
theorem aU6(c k:Nat):strs (aP c k)=kH c k:=by simp[strs,aP,kH]
theorem av5(h1:1<=ints)(h3:ints<=3)(ht:tables<=1)(bE:flags<=2)(kB:own<(ey ar).length)(gX:(ey ar).length<=3)(cS:∀l∈ar,1<=l.length/\l.length<=3/\∀n∈l,n<=2){al:uo}(aQ:ar[own]? =some al)(cs:List Cd)(cJ:cs.length<=al.length):
 ∀(f i:Nat),i+f=cs.length->∀(hs:List Hn) (params:Nat) (bs:yy) (left:Nat),hs.length=i->(∀k h,hs[k]? =some h->sh ints tables flags own ar al k h)->Rn F X 10 1 (.sl (hs.map Hn.r):: .sl (cs.map Cd.d)::jD (cs.map Cd.d).length::iD i::eA ints tables flags own ar params bs left) (HsQ ints tables flags own ar al cs.length):=by
 have hA:(cs.map Cd.d).length=cs.length:=xm _;have am9:al.length<=3:=by
  have:=xu aQ;exact(cS al this).2.1
 intro f
 induction f with
 |zero=>
  intro i hi hs params bs left hl hk;exact wr rfl<|wn rfl ai<|wt rfl ⟨hs,params,bs,left,rfl,PT,hk⟩
 |succ f ih=>
  intro i hi hs params bs left hl hk;obtain⟨l,jO,lq,gg,dQ,aW⟩:=BM kB cS;obtain rfl:l=al:=by rw[aQ] at jO;cases jO;rfl
  have o5:(hs.map Hn.r).length=hs.length:=xm _;obtain⟨n,hn,lU,gf⟩:=Bn (l:=l) (k:=i) (by rw[AT];omega) aW;obtain⟨a,ha,hd⟩:=BL (f:=Cd.d) (l:=cs) (i:=i) PT;refine wr rfl<|wy rfl ai<|wo rfl (aA hd rfl)<|wg 1 rfl<|ei<|wo rfl (aA lq rfl)<|wg 1 rfl<|wo rfl (aA lU rfl)<|wg 1 rfl<|gS<|wo rfl bf<|wl rfl (yJ _ 40) rfl<|wo rfl (nw PT)<|wl rfl (mA (c:=104) (n:=3) PT PT) rfl<|qi<|wo rfl (aA (nY PT) rfl)<|wg 1 rfl<|wl rfl (mA (c:=112) (n:=n) PT PT) rfl<|wg 1 rfl ?_;rw[az4];refine wx rfl (bc7 h1 h3 ht bE gf kB gX cS (left:=12) PT) fun|_,⟨l2,bs,left,rfl,bY,bM,qv⟩=>⟨rfl,?_⟩
  dsimp only [eA,Ex.r,St.r,List.cons_append,List.nil_append,lh,lg,k9,kZ,kY];refine wg 2 rfl<|wo rfl oP<|wo rfl oA<|Wp.jump rfl ?_;have:=ih (i+1) PT (hs++[⟨nm 104 i,aP 112 n,l2⟩]) n bs left Qo (fun k h hh=>by
   rcases Nat.lt_or_ge k hs.length with bk|iL
   ·rw[xw bk] at hh;exact hk k h hh
   ·rw[xq iL] at hh;have h0:k - hs.length=0:=by
     rcases xI (k - hs.length) with h|h
     ·exact h
     ·rw[List.getElem?_eq_none Qo] at hh;cases hh
    rw[h0] at hh;cases hh;obtain rfl:k=i:=PT
    exact⟨rfl,⟨n,hn,rfl,bY⟩,by show St.ns l2<=12;omega⟩)
  have e:(hs++[(⟨nm 104 i,aP 112 n,l2⟩:Hn)]).map Hn.r=hs.map Hn.r++[[.str (nm 104 i),.sl (kH 112 n),.sl (St.rs l2)]]:=by
   rw[List.map_append];show _++[[_,D.sl (strs (aP 112 n)),_]]=_
   rw[aU6]
  rw[e] at this;exact this
theorem yu(h1:1<=ints)(h3:ints<=3)(ht:tables<=1)(bE:flags<=2)(kB:own<(ey ar).length)(gX:(ey ar).length<=3)(cS:∀l∈ar,1<=l.length/\l.length<=3/\∀n∈l,n<=2){al:uo}(aQ:ar[own]? =some al){cs:List Cd}(cJ:cs.length<=al.length){params left:Nat}{bs:yy}:
 Rn F X 10 0 [iD ints,iD tables,iD flags,iD own,.sl (ey ar),iD params,.sl (bV bs),iD left,.sl (cs.map Cd.d)] (HsQ ints tables flags own ar al cs.length):=by
 refine wr rfl<|wo rfl bf<|Wp.jump rfl ?_;exact av5 h1 h3 ht bE kB gX cS aQ cs cJ cs.length 0 PT [] params bs left rfl (fun k h hh=>by simp at hh)
end
end Go.Proofs.YthicpeihkkokmaaGreatDoor
