/- What these functions answer. -/
import Derived.Test.YthicpeihkkokmaaGreatDoorP1
import Derived.Test.YthicpeihkkokmaaGreatDoorA0
set_option linter.unusedVariables false
set_option linter.unusedSimpArgs false
set_option maxHeartbeats 4000000
set_option maxRecDepth 100000
namespace Go.Proofs.YthicpeihkkokmaaGreatDoor
open Go.Ex Go.RowKit Go.Sort
variable{es:a0i}{G:G2}{m:Nd}{X:a0a}{l:a0m}{α:Type}{n c ints tables flags params left:Nat}
structure GI (es:a0i) (G:G2):Prop where
 nd:(G.map (·.1)).Nodup
 v:∀p∈G,p.2=tg p.1 es
 k:∀m,m∈G.map (·.1)↔m∈es.map (·.1)
theorem J6(k m n:Nd)(es:a0i):tg k (es++[(m,n)])=if m=k then tg k es++[n] else tg k es:=by
 unfold tg;rw[List.filter_append,List.map_append];by_cases h:m=k
 ·rw[i_ h,List.filter_cons_of_pos (by exact u_ h)];rfl
 ·rw[j_ h,List.filter_cons_of_neg (by simpa using h)];exact xj _
theorem aU3{k:Nd}(h:k∉es.map (·.1)):tg k es=[]:=by
 unfold tg;rw[List.filter_eq_nil_iff.2 fun e he=>by simp only [decide_eq_true_eq];exact fun e1=>h (xJ.2 ⟨e,he,e1⟩)];rfl
theorem Q6(k:Nd)(es:a0i):(tg k es).length<=es.length:=by
 unfold tg;rw[xm];exact List.length_filter_le _ _
theorem GI.add(h:GI es G)(m n:Nd):GI (es++[(m,n)]) (E6 m n G):=by
 unfold E6;cases hk:cY m.r (bB G) with
 |none=>
  have hm:=yA hk;have yd:m∉G.map (·.1):=fun h1=>by obtain⟨p,h2,h3⟩:=xJ.1 h1;exact hm p h2 h3
  refine⟨?_,fun p hp=> ?_,fun x=> ?_⟩
  ·show((G++[(m,[n])]).map (·.1)).Nodup;rw[List.map_append];exact List.nodup_append.2 ⟨h.nd,a0C,fun a ha b hb e=>yd (by have e2:b=m:=xy.1 hb;rw[<-e2,<-e];exact ha)⟩
  ·rcases xF.1 hp with hp|hp
   ·rw[J6,j_ (fun e=>hm p hp e.symm)];exact h.v p hp
   ·rw[xy.1 hp,J6,i_ Y,aU3 (fun h1=>yd ((h.k m).2 h1))];rfl
  ·show x∈(G++[(m,[n])]).map (·.1)↔_;rw[List.map_append,List.map_append,xF,xF,h.k];rfl
 |some j=>
  obtain⟨v,e1,_⟩:=Jz h.nd hk;have hm:m∈es.map (·.1):=(h.k m).1 (xJ.2 ⟨_,xu e1,rfl⟩);refine⟨?_,fun p hp=> ?_,fun x=> ?_⟩
  ·show((mi m (· ++[n]) G).map (·.1)).Nodup;rw[W2];exact h.nd
  ·obtain⟨q,hq,rfl⟩:=xJ.1 (show p∈mi m (· ++[n]) G from hp);by_cases e:q.1=m
   ·rw[i_ e];show q.2++[n]=tg q.1 _;rw[J6,i_ e.symm,<-h.v q hq]
   ·rw[j_ e,J6,j_ (fun e2=>e e2.symm)];exact h.v q hq
  ·show x∈(mi m (· ++[n]) G).map (·.1)↔_;rw[W2,h.k,List.map_append,xF];refine⟨.inl,fun h1=>h1.elim id fun h2=> ?_⟩;rw[xy.1 h2];exact hm
def oU(S:a0m)(G:G2):G2:=G.map fun p=>if p.1∈S then(p.1,iH p.2) else p
theorem aL6(S:a0m)(G:G2):(oU S G).map (·.1)=G.map (·.1):=by
 unfold oU;rw[List.map_map];refine List.map_congr_left fun p _=> ?_
 show(if p.1∈S then(p.1,iH p.2) else p).1=p.1;split<;>rfl
theorem aL5(S:a0m)(n:Nd)(G:G2):mi n iH (oU S G)=oU (S++[n]) G:=by
 unfold mi oU;rw[List.map_map];refine List.map_congr_left fun p _=> ?_
 obtain⟨k,v⟩:=p;by_cases h:k∈S<;>by_cases e:k=n<;>simp_all [aU8]
theorem GI.nx(h:GI es G){S:a0m}(hS:∀e∈es,e.1∈S):tK (bB (oU S G))=nx es:=by
 have hG:oU S G=G.map fun p=>(p.1,iH (tg p.1 es)):=by
  refine List.map_congr_left fun p hp=> ?_
  obtain⟨e,he,e1⟩:=xJ.1 ((h.k p.1).1 (List.mem_map_of_mem hp));rw[i_ (by rw[<-e1];exact hS e he),h.v p hp]
 have hn:=h.nd;rw[hG];refine bc5 ?_ (by rw[List.map_map];exact hn);have e2:G.map (fun p=>(p.1,iH (tg p.1 es)))=(G.map (·.1)).map fun k=>(k,iH (tg k es)):=by rw[List.map_map];rfl
 rw[e2];refine List.Perm.map _ ((List.perm_ext_iff_of_nodup hn (Qz _)).2 fun a=> ?_);rw[h.k,Kk,(sL _).mem_iff]
theorem Xb(h:GI es G){S:a0m}{v:a0m}(hv:v=[]\/(m,v)∈oU S G):v.length<=es.length:=by
 rcases hv with rfl|hv
 ·exact xL _
 ·obtain⟨p,hp,e⟩:=xJ.1 hv;have hl:=Q6 p.1 es;rw[<-h.v p hp] at hl;split at e<;>cases e
  ·rw[(sL p.2).length_eq];exact hl
  ·exact hl
section
theorem OY(h:l.length<=1000000):Rn F X 179 0 [.sl (Nd.rs l)] (·=[.sl (Nd.rs (iH l))]):=aU9 (d:=l.toArray) h
theorem gr7{S:a0m}{es':a0i}{G':G2}(h1:GI es G)(h2:GI es' G')(hS:∀e∈es,e.1∈S)(UU:∀e∈es',e.1∈S)(b1:es.length<=1000000)(b2:es'.length<=1000000)(b3:S.length<=1000000):
 ∀(k i:Nat),i+k=S.length->Rn F X 165 7 [.sl (Nd.rs S),jD S.length,jD i,.sl (bB (oU (S.take i) G)),.sl (bB (oU (S.take i) G'))] (·=[.sl (Nd.rs S),.sl (nx es),.sl (nx es')])
 |0,i,hi=>by
  refine wr Y<|Wp.rG Y (by rw[ai,f_ a0B]) ?_;have fB:∀G:G2,(bB G).all Rc=true:=fun G=>by
   rw[List.all_eq_true];intro r hr;obtain⟨p,_,rfl⟩:=xJ.1 hr;rfl
  rw[List.take_of_length_le a0B];have e1:∀G:G2,aL .DH [.sl (bB (oU S G))]=some (.sl (tK (bB (oU S G)))):=fun G=>by
   show(if(bB (oU S G)).all Rc then some (D.sl (tK (bB (oU S G)))) else none)=_;rw[fB];rfl
  refine wg 1 Y<|wo Y (e1 G)<|wg 1 Y<|wo Y (e1 G')<|wt Y ?_;rw[h1.nx hS,h2.nx UU]
 |k+1,i,hi=>by
  have ov:i<S.length:=a0B
  refine wr Y<|Wp.nV Y (by rw[ai,u_ a0B]) ?_;have hz:(Nd.rs S)[i]? =some S[i].r:=by
   show(S.map Nd.r)[i]? =_;rw[xx,xc ov];rfl
  have a1:aL .jf [.sl (Nd.rs S),jD i]=some (.bool true):=by
   show some (D.bool (decide (i<(S.map Nd.r).length)))=_;rw[xm,u_ ov]
  have a2:aL (.qK 0 3 true) [.sl (Nd.rs S),jD i]=some (.agg S[i].r):=by
   show((Nd.rs S)[i]?).bind (fun r=>yX r 0 3 true)=_;rw[hz];rfl
  have dj:∀{es G},GI es G->((oU (S.take i) G).map (·.1)).Nodup:=fun h=>by rw[aL6];exact h.nd
  obtain⟨r1,v1,k1,k2,k3⟩:=Y8 (dj h1) S[i] iH;obtain⟨r2,v2,l1,l2,l3⟩:=Y8 (dj h2) S[i] iH;rw[aL5,<-List.take_succ_eq_append_getElem ov] at k3 l3;have s1:=Xb h1 k2;have s2:=Xb h2 l2;refine Wp.nV Y a1<|Wp.aV Y a2 rfl<|Wp.aV Y k1 rfl<|wl Y (OY a0B) rfl ?_;dsimp only [c_,n_];refine Wp.aV Y l1 rfl<|wl Y (OY a0B) rfl ?_;dsimp only [c_,n_];refine wo Y (bm (a:=i) (b:=1) a0B)<|wg 1 Y<|wo Y k3<|wg 1 Y<|wo Y l3<|b_ Y ?_;exact gr7 h1 h2 hS UU b1 b2 b3 k (i+1) a0B
end
theorem Og:∀(l:List α) (j:Nat) (h:j<l.length),(l[j]::l.eraseIdx j).Perm l
 |[],j,h=>absurd h (Nat.not_lt_zero j)
 |x::l,0,_=> .refl _
 |x::l,j+1,h=>(List.Perm.swap x _ _).trans ((Og l j (Nat.lt_of_succ_lt_succ h)).cons x)
theorem WV{β:Type}(f:α->β):∀(l:List α) (j:Nat),(l.map f).eraseIdx j=(l.eraseIdx j).map f
 |[],j=>rfl
 |x::l,0=>rfl
 |x::l,j+1=>by
  show f x::(l.map f).eraseIdx j=f x::(l.eraseIdx j).map f;rw[WV f l j]
def l5(e:Nd×Nd):a0d:=[.agg (e.1.r++e.2.r),.bool true]
def eS(n:Nd):a0d:=[.agg n.r,.bool true]
def z3(e:Nd×Nd):Nd×Nd:=(e.2,e.1)
theorem X6(G:G2):oU [] G=G:=(List.map_congr_left fun p _=>j_ (List.not_mem_nil)).trans (List.map_id G)
theorem Xl{f:α->a0d}{g:α->a0d}{v:D}(hf:∀x,f x=[.agg (g x),v]){nk:Nat}(hg:∀x,(g x).length=nk){env:a0d}{left:List α}{j:Nat}(hj:j<left.length):qC nk env (left.map f) j=some (env++(g left[j]++[v,.sl ((left.eraseIdx j).map f)])):=by
 unfold qC;rw[xx,xc hj];show(match some (f left[j]) with|some [D.agg kd,v]=>if kd.length=nk then some (env++(kd++[v,D.sl ((left.map f).eraseIdx j)])) else none|_=>none)=_;rw[hf];show(if(g left[j]).length=nk then some (env++(g left[j]++[v,D.sl ((left.map f).eraseIdx j)])) else none)=_;rw[i_ (hg _),WV]
section
theorem gr4{S:a0m}(b3:S.length<=1000000)(A:a0b):∀(k:Nat) (left oF:a0i) (G G':G2),left.length=k->GI oF G->GI (oF.map z3) G'->oF.length+left.length<=1000000->(∀e∈oF++left,e.1∈S/\e.2∈S)->
 Rn F X 165 4 [.sl (Nd.rs S),.sl A,.sl (left.map l5),.sl (bB G),.sl (bB G')] (·=[.sl (Nd.rs S),.sl (nx (oF++left)),.sl (nx ((oF++left).map z3))])
 |0,left,oF,G,G',hl,h1,h2,hb,hS=>by
  obtain rfl:=xA hl;rw[xj] at hS⊢;refine wr Y<|Wp.pick (left:=[]) rfl (fun _=>⟨[.sl (Nd.rs S),.sl A,.sl [],.sl (bB G),.sl (bB G')],?_,?_⟩) (fun j hj=>absurd hj (Nat.not_lt_zero j))
  ·rfl
  refine wr Y<|wo Y bf<|b_ Y ?_;have:=gr7 (X:=X) h1 h2 (S:=S) (fun e he=>(hS e he).1) (fun e he=>by obtain⟨q,hq,rfl⟩:=xJ.1 he;exact(hS q hq).2) a0B (by rw[xm];omega) b3 S.length 0 a0B;rw[List.take_zero,X6,X6] at this;rw[show(Nd.rs S).length=S.length from xm _];exact this
 |k+1,left,oF,G,G',hl,h1,h2,hb,hS=>by
  refine wr Y<|Wp.pick (left:=left.map l5) rfl (fun e=>by rw[List.map_eq_nil_iff] at e;subst e;cases hl) (fun j hj=> ?_);have pS:j<left.length:=by rw[xm] at hj;exact hj
  refine⟨_,[.sl (Nd.rs S),.sl A,.sl ((left.eraseIdx j).map l5)]++left[j].1.r++left[j].2.r++[.bool true,.sl (bB G),.sl (bB G')],Xl (f:=l5) (g:=fun e=>e.1.r++e.2.r) (v:= .bool true) (fun _=>rfl) (fun _=>rfl) pS,rfl,?_⟩;have hp:=Og left j pS;have aD:(left.eraseIdx j).length=k:=by have:=hp.length_eq;rw[xi] at this;omega
  generalize left[j]=e at hp⊢;generalize left.eraseIdx j=kz at hp aD⊢;obtain⟨m,n⟩:=e;have aO:(oF++[(m,n)]++kz).Perm (oF++left):=by rw[a_];exact hp.append_left oF
  have ih:=gr4 b3 A k kz (oF++[(m,n)]) (E6 m n G) (E6 n m G') aD (h1.add m n) (by rw[List.map_append];exact h2.add n m) (by rw[xa];show oF.length+1+kz.length<=1000000;have:=hp.length_eq;rw[xi] at this;omega) (fun e he=>hS e (aO.mem_iff.1 he));rw[Yp aO,Yp (aO.map z3)] at ih;refine wr Y ?_;obtain⟨r1,v1,j1,k1,k2,k3⟩:=ZP h1.nd m n;obtain⟨r2,v2,j2,l1,l2,l3⟩:=ZP h2.nd n m;have q1:v1.length<=oF.length:=by
   rcases k2 with rfl|k2
   ·exact xL _
   ·have:=Q6 m oF;rw[<-h1.v _ k2] at this;exact this
  have q2:v2.length<=oF.length:=by
   rcases l2 with rfl|l2
   ·exact xL _
   ·have:=Q6 n (oF.map z3);rw[<-h2.v _ l2,xm] at this;exact this
  have z1:(Nd.rs v1).length=v1.length:=xm _;have z2:(Nd.rs v2).length=v2.length:=xm _;refine Wp.aV Y k1 rfl<|wg 2 Y<|wo Y oP<|wo Y k3 ?_;dsimp only [c_,n_];exact Wp.aV Y l1 rfl<|wg 2 Y<|wo Y oP<|wo Y l3<|wj ih
abbrev Vi(fr:a0d)(fo:Nat)(x1 x2 x3 x4:Int):a0d:=[.ptr fr fo,iD9 x1,.int .u8 x2,iD9 x3,iD9 x4]
theorem gi0:GI [] []:=⟨.nil,fun p hp=>(nomatch hp),fun m=>Iff.rfl⟩
theorem gr1{E:a0i}(b1:l.length<=1000000)(b2:E.length<=1000000)(hE:∀e∈E,e.1∈l/\e.2∈l)(A:a0b)(fr:a0d)(fo:Nat)(x1 x2 x3 x4:Int):∀(k:Nat) (left bJ:a0m),left.length=k->(bJ++left).Perm l->
 Rn F X 165 1 (Vi fr fo x1 x2 x3 x4++[.sl (Nd.rs bJ),.sl A,.sl (left.map eS),.sl (E.map l5),.sl []]) (·=[.sl (Nd.rs (iH l)),.sl (nx E),.sl (nx (E.map z3))])
 |0,left,bJ,hl,hp=>by
  obtain rfl:=xA hl;rw[xj] at hp;refine wr Y<|Wp.pick (left:=[]) rfl (fun _=>⟨_,rfl,?_⟩) (fun j hj=>absurd hj (Nat.not_lt_zero j));refine wr Y<|wl Y (OY (l:=bJ) (by rw[hp.length_eq];exact b1)) rfl<|b_ Y ?_;rw[JH hp];exact gr4 (S:=iH l) (by rw[(sL l).length_eq];exact b1) (E.map l5) E.length E [] [] [] rfl gi0 gi0 (by show 0+E.length<=1000000;omega) (fun e he=>⟨(sL l).mem_iff.2 (hE e he).1,(sL l).mem_iff.2 (hE e he).2⟩)
 |k+1,left,bJ,hl,hp=>by
  refine wr Y<|Wp.pick (left:=left.map eS) rfl (fun e=>by rw[List.map_eq_nil_iff] at e;subst e;cases hl) (fun j hj=> ?_);have pS:j<left.length:=by rw[xm] at hj;exact hj
  refine⟨_,Vi fr fo x1 x2 x3 x4++[.sl (Nd.rs bJ),.sl A,.sl ((left.eraseIdx j).map eS)]++left[j].r++[.bool true,.sl (E.map l5),.sl []],Xl (f:=eS) (g:=fun n=>n.r) (v:= .bool true) (fun _=>rfl) (fun _=>rfl) pS,rfl,?_⟩;have h1:=Og left j pS;have aD:(left.eraseIdx j).length=k:=by have:=h1.length_eq;rw[xi] at this;omega
  generalize left[j]=n at h1⊢;generalize left.eraseIdx j=kz at h1 aD⊢;have aO:(bJ++[n]++kz).Perm l:=by rw[a_];exact(h1.append_left bJ).trans hp
  have hb:bJ.length+1<=1000000:=by have:=aO.length_eq;rw[xa,xa] at this;have:bJ.length+1+kz.length=l.length:=this;omega
  have z1:(Nd.rs bJ).length=bJ.length:=xm _;refine wr Y<|wg 2 Y<|wo Y oP ?_;have ih:=gr1 b1 b2 hE A fr fo x1 x2 x3 x4 k kz (bJ++[n]) aD aO;rw[show Nd.rs (bJ++[n])=Nd.rs bJ++[n.r] from List.map_append] at ih;exact b_ Y ih
theorem aP9{E:a0i}(b1:l.length<=1000000)(b2:E.length<=1000000)(hE:∀e∈E,e.1∈l/\e.2∈l)(fr:a0d)(fo:Nat)(x1 x2 x3 x4:Int):
 Rn F X 165 0 (Vi fr fo x1 x2 x3 x4++[.sl (l.map eS),.sl (E.map l5)]) (·=[.sl (Nd.rs (iH l)),.sl (nx E),.sl (nx (E.map z3))]):=by
 exact wr Y<|wg 2 Y<|b_ Y (gr1 b1 b2 hE (l.map eS) fr fo x1 x2 x3 x4 l.length l [] rfl (.refl _))
end
def jh(n:Nd)(l:a0m):a0m:=if n∈l then l else l++[n]
def tD(e:Nd×Nd)(E:a0i):a0i:=if e∈E then E else E++[e]
theorem O9{n x:Nd}:x∈jh n l↔x∈l\/x=n:=by
 unfold jh;split
 ·exact⟨.inl,fun h=>h.elim id fun e=>by rw[e];assumption⟩
 ·rw[xF,xy]
theorem aN9{n x:Nd×Nd}{l:a0i}:x∈tD n l↔x∈l\/x=n:=by
 unfold tD;split
 ·exact⟨.inl,fun h=>h.elim id fun e=>by rw[e];assumption⟩
 ·rw[xF,xy]
theorem Ys{l:List α}{x:α}(h:l.Nodup)(hx:x∉l):(l++[x]).Nodup:=
 List.nodup_append.2 ⟨h,a0C,fun a ha b hb e=>hx (by rw[<-xy.1 hb,<-e];exact ha)⟩
theorem PP{n:Nd}(h:l.Nodup):(jh n l).Nodup:=by
 unfold jh;split
 ·exact h
 ·exact Ys h ‹_›
theorem aY2{n:Nd×Nd}{l:a0i}(h:l.Nodup):(tD n l).Nodup:=by
 unfold tD;split
 ·exact h
 ·exact Ys h ‹_›
theorem Wi(m n:Nd):lY m.r (eS n)=decide (n=m):=Hc m n
theorem KT:∀{l:a0m},(m∉l->cY m.r (l.map eS)=none)/\(m∈l->∃j,cY m.r (l.map eS)=some j/\l[j]? =some m)
 |[]=>⟨fun _=>rfl,fun h=>nomatch h⟩
 |x::l=>by
  have e:cY m.r ((x::l).map eS)=if lY m.r (eS x) then some 0 else(cY m.r (l.map eS)).map (· +1):=rfl
  rw[e,Wi];by_cases hx:x=m
  ·subst hx;refine⟨fun h=>absurd xn h,fun _=>⟨0,?_,rfl⟩⟩;rw[u_ rfl,i_ Y]
  ·rw[f_ hx,j_ Bool.noConfusion];refine⟨fun h=> ?_,fun h=> ?_⟩
   ·rw[KT.1 fun h2=>h (xo _ h2)];rfl
   ·obtain⟨j,h1,h2⟩:=KT.2 ((xG.1 h).elim (fun e=>absurd e.symm hx) id);exact⟨j+1,by rw[h1];rfl,h2⟩
theorem WO:∀{l:a0m},∃b:Bool,(nI m.r (l.map eS)).getD (.bool false)= .bool b
 |[]=>⟨false,rfl⟩
 |x::l=>by
  have e:nI m.r ((x::l).map eS)=if lY m.r (eS x) then some (.bool true) else nI m.r (l.map eS):=rfl
  rw[e];split
  ·exact⟨true,rfl⟩
  ·exact WO
theorem YR(n:Nd)(l:a0m):∃rows b j,aL (.AU KN) [.sl (l.map eS),.agg n.r,.bool false]=some (.agg [.sl rows,.bool b,jD j])/\aL .vY [.sl rows,jD j,.bool true]=some (.sl ((jh n l).map eS)):=by
 obtain⟨b,hb⟩:=WO (m:=n) (l:=l);have e1:aL (.AU KN) [.sl (l.map eS),.agg n.r,.bool false]=some (.agg [.sl (if(cY n.r (l.map eS)).isSome then l.map eS else l.map eS++[[.agg n.r,.bool false]]),(nI n.r (l.map eS)).getD (.bool false),.int .i64 ((cY n.r (l.map eS)).getD (l.map eS).length:Nat)]):=rfl;have e2:∀(rows:a0b) (j:Nat) (k w:D),rows[j]? =some [k,w]->aL .vY [.sl rows,jD j,.bool true]=some (.sl (rows.set j [k,.bool true])):=fun rows j k w h=>by
  show(match rows[j]? with|some [k,_]=>if(D.bool true).cell then some (D.sl (rows.set j [k,.bool true])) else none|_=>none)=_;rw[h];rfl
 unfold jh;by_cases h:n∈l
 ·obtain⟨j,h1,h2⟩:=KT.2 h;refine⟨l.map eS,b,j,?_,?_⟩
  ·rw[e1,hb,h1];rfl
  ·have h3:(l.map eS)[j]? =some (eS n):=by rw[xx,h2];rfl
   rw[i_ h,e2 _ j (.agg n.r) (.bool true) h3]
   congr 2
   obtain⟨i1,i2⟩:=xe.1 h3;have:[.agg n.r,.bool true]=(l.map eS)[j]:=i2.symm;rw[this,List.set_getElem_self]
 ·have h1:=KT.1 h;refine⟨l.map eS++[[.agg n.r,.bool false]],b,(l.map eS).length,?_,?_⟩
  ·rw[e1,hb,h1];rfl
  ·rw[j_ h,e2 _ _ (.agg n.r) (.bool false) (by rw[xq (xk _),Nat.sub_self];rfl),List.set_append_right _ _ (xk _),Nat.sub_self,List.map_append];rfl
abbrev KE:a0u:=[.u8,.i64,.i64,.u8,.i64,.i64]
theorem aB2(m n:Nd)(e:Nd×Nd):lY (m.r++n.r) (l5 e)=decide (e=(m,n)):=by
 show kD (m.r++n.r) (e.1.r++e.2.r)=_;have h1:=Hc m e.1;have h2:=Hc n e.2;have h3:kD (m.r++n.r) (e.1.r++e.2.r)=(kD m.r e.1.r&&kD n.r e.2.r):=by
  show(decide (m.k=e.1.k)&& (decide (m.a=e.1.a)&& (decide (m.b=e.1.b)&&kD n.r e.2.r)))=((decide (m.k=e.1.k)&& (decide (m.a=e.1.a)&& (decide (m.b=e.1.b)&&true)))&&kD n.r e.2.r);rw[Bool.and_true,Bool.and_assoc,Bool.and_assoc]
 rw[h3,h1,h2,Bool.eq_iff_iff,xf,decide_eq_true_eq,decide_eq_true_eq,decide_eq_true_eq,Prod.ext_iff]
theorem upE(m n:Nd)(E:a0i):aL (.uB KE) [.sl (E.map l5),.agg (m.r++n.r),.bool true]=some (.sl ((tD (m,n) E).map l5)):=by
 have e1:aL (.uB KE) [.sl (E.map l5),.agg (m.r++n.r),.bool true]=some (.sl (tP (m.r++n.r) (.bool true) (E.map l5))):=rfl;rw[e1]
 congr 2
 clear e1
 induction E with
 |nil=>rfl
 |cons e E ih=>
  show(if lY (m.r++n.r) (l5 e) then[.agg (m.r++n.r),.bool true]::E.map l5 else l5 e::tP (m.r++n.r) (.bool true) (E.map l5))=_;rw[aB2,ih];unfold tD;by_cases he:e=(m,n)
  ·subst he;rw[u_ rfl,i_ Y,i_ xn];rfl
  ·rw[f_ he,j_ Bool.noConfusion];by_cases hm:(m,n)∈E
   ·rw[i_ hm,i_ (xo _ hm)];rfl
   ·rw[j_ hm,j_ fun h=>(xG.1 h).elim (fun h=>he h.symm) hm];rfl
theorem xS(n:Nd)(l:a0m):aL (.uB KN) [.sl (l.map eS),.agg n.r,.bool true]=some (.sl ((jh n l).map eS)):=by
 have e1:aL (.uB KN) [.sl (l.map eS),.agg n.r,.bool true]=some (.sl (tP n.r (.bool true) (l.map eS))):=rfl;rw[e1]
 congr 2
 clear e1
 induction l with
 |nil=>rfl
 |cons e l ih=>
  show(if lY n.r (eS e) then[.agg n.r,.bool true]::l.map eS else eS e::tP n.r (.bool true) (l.map eS))=_;rw[Wi,ih];unfold jh;by_cases he:e=n
  ·subst he;rw[u_ rfl,i_ Y,i_ xn];rfl
  ·rw[f_ he,j_ Bool.noConfusion];by_cases hm:n∈l
   ·rw[i_ hm,i_ (xo _ hm)];rfl
   ·rw[j_ hm,j_ fun h=>(xG.1 h).elim (fun h=>he h.symm) hm];rfl
structure Bd where
 fr:a0d
 fo:Nat
 c:Int
 h:Nd
 l:a0m
 E:a0i
abbrev Bd.d(b:Bd):a0d:=[.ptr b.fr b.fo,iD9 b.c,.int .u8 b.h.k,iD9 b.h.a,iD9 b.h.b,.sl (b.l.map eS),.sl (b.E.map l5)]
def Bd.jl(b:Bd)(e:Nd×Nd):Bd:={b with l:=jh e.2 (jh e.1 b.l),E:=tD e b.E}
def Bd.j9(b:Bd)(es:a0i):Bd:=es.foldl Bd.jl b
section
variable{b:Bd}
theorem GD(m n:Nd):Rn F X 121 0 (b.d++m.r++n.r) (·=(b.jl (m,n)).d):=by
 refine wr Y ?_;obtain⟨r1,b1,j1,k1,k2⟩:=YR m b.l;obtain⟨r2,b2,j2,l1,l2⟩:=YR n (jh m b.l);refine Wp.aV Y k1 rfl<|wo Y k2<|Wp.aV Y l1 rfl<|wo Y l2 ?_;dsimp only [c_,n_];exact wo Y (upE m n b.E)<|wt Y Y
theorem Gn(n:Nd):Rn F X 123 0 (b.d++n.r) (·=(b.jl (n,b.h)).d):=by
 exact wr Y<|wl Y (GD n b.h) rfl<|wt Y Y
theorem JF(n:Nd):Rn F X 124 0 (b.d++n.r) (·=(b.jl (b.h,n)).d):=by
 exact wr Y<|wl Y (GD b.h n) rfl<|wt Y Y
theorem XN:Rn F X 125 0 b.d (·=(b.j9 [(⟨2,b.c,0⟩,b.h),(b.h,⟨2,b.c,0⟩)]).d):=by
 exact wr Y<|wl Y (Gn (b:=b) ⟨2,b.c,0⟩) rfl<|wl Y (JF (b:=b.jl (⟨2,b.c,0⟩,b.h)) ⟨2,b.c,0⟩) rfl<|wt Y Y
theorem V7(y z:Nd):Rn F X 126 0 (b.d++y.r++z.r) (·=(b.j9 [(b.h,y),(b.h,z),(y,z)]).d):=by
 exact wr Y<|wl Y (GD (b:=b) b.h y) rfl<|wl Y (GD (b:=b.jl (b.h,y)) b.h z) rfl<|wl Y (GD (b:=(b.jl (b.h,y)).jl (b.h,z)) y z) rfl<|wt Y Y
end
open Go.Ex Go.RowKit Go.Fl
section
theorem sF(l:a0h):(bV l).length=l.length:=xm _
theorem PM{m:Mk}(hn:1<=n):Rn F X 0 0 (m.d++[iD n]) (fun o=>∃k bs,o=iD k::Mk.d {m with bs:=bs}/\k<n/\bs.length<=m.bs.length):=by
 obtain⟨ints,tables,flags,own,ar,params,bs,left⟩:=m;refine Rn.of (fd:=nU) (t:=bK2) rfl rfl rfl rfl (e_ Y bf rfl ?_);cases bs with
 |nil=>exact Wp.dO Y ay rfl (wt Y ⟨0,[],rfl,a0B,xk _⟩)
 |cons b bs=>
  refine Wp.dF Y ay (by show ¬(((bV (b::bs)).length:Nat):Int)=0;rw[sF,xi];omega)<|e_ Y Y Y (e_ Y Y Y (e_ Y (Ed (by have:=b.toNat_lt;omega)) rfl ?_));exact wo Y (Kh (by simp[bV]) (fun r hr=>by obtain⟨x,_,rfl⟩:=xJ.1 hr;rfl))<|e_ Y (mG .i64 hn) rfl (wt Y ⟨b.toNat%n,bs,rfl,Nat.mod_lt _ hn,a0C⟩)
def kH(c k:Nat):a0b:=(List.range k).map fun j=>[.str (nm c j)]
theorem aN6(c k:Nat):kH c (k+1)=kH c k++[[.str (nm c k)]]:=by simp[kH,List.range_succ]
theorem yP(c k:Nat):(kH c k).length=k:=by simp[kH]
theorem nY{k j:Nat}(h:j<k):(kH c k)[j]? =some [.str (nm c j)]:=by simp[kH,h]
theorem We(hc:c<256)(hn:n<=9):∀(f k:Nat),k+f=n->Rn F X 7 1 [bD c,iD n,.sl (kH c k),iD k] (·=[.sl (kH c n)])
 |0,k,h=>by
  obtain rfl:k=n:=a0B
  exact Rn.of (fd:=FY) (t:=as3) rfl rfl rfl rfl (Wp.dF Y ai a0B (wt Y Y))
 |f+1,k,h=>by
  refine Rn.of (fd:=FY) (t:=as3) rfl rfl rfl rfl (Wp.dO Y ai a0B ?_);refine e_ Y (bm (a:=48) a0B) rfl (e_ Y (yZ a0B) rfl (e_ Y (aX2 hc a0B) rfl ?_));refine Wp.note (e_ Y Y Y (e_ Y (gD Y Y (by rw[yP];omega) (by rw[yP];omega)) rfl (e_ Y (bm (b:=1) a0B) rfl (b_ Y ?_))));have:=We hc hn f (k+1) a0B;rw[aN6] at this;exact this
theorem mA(hc:c<256)(hn:n<=9):Rn F X 7 0 [bD c,iD n] (·=[.sl (kH c n)]):=
 Rn.of (fd:=FY) (t:=bK1) rfl rfl rfl rfl (b_ Y (We hc hn n 0 a0B))
end
section
variable{own:Nat}{ar:a0f}
abbrev eA(ints tables flags own:Nat)(ar:a0f)(params:Nat)(bs:a0h)(left:Nat):a0d:=[iD ints,iD tables,iD flags,iD own,.sl (ey ar),iD params,.sl (bV bs),iD left]
theorem fP{bs:a0h}(n:Nat)(hn:1<=n):Rn F X 0 0 [iD ints,iD tables,iD flags,iD own,.sl (ey ar),iD params,.sl (bV bs),iD left,iD n] (fun o=>∃k fJ,o=iD k::eA ints tables flags own ar params fJ left/\k<n/\fJ.length<=bs.length):=
 PM (m:=⟨ints,tables,flags,own,ar,params,bs,left⟩) hn
theorem m9{bs:a0h}(h1:1<=ints)(h3:ints<=3):Rn F X 1 0 (eA ints tables flags own ar params bs left) (fun o=>∃k fJ,o= .str (nm 120 k)::eA ints tables flags own ar params fJ left/\k<ints/\fJ.length<=bs.length):=by
 refine wr Y<|wl Y (mA (c:=120) (n:=3) a0B a0B) rfl<|wg 1 Y<|wx Y (fP ints h1) ?_;rintro _ ⟨k,fJ,rfl,hk,hb⟩;refine⟨rfl,e_ Y (aA (nY a0B) rfl) rfl ?_⟩;exact wg 1 Y<|wt Y ⟨k,fJ,rfl,hk,hb⟩
def bL0(ints tables flags own:Nat)(ar:a0f)(params:Nat)(bs:a0h)(left f:Nat)(o:a0d):Prop:=∃e fJ,o=Ex.r e++eA ints tables flags own ar params fJ left/\fS ⟨ints,tables,flags,params⟩ f e/\fJ.length<=bs.length
theorem Sn{k:Nat}(h:k<6):∃op,11<=op/\op<=15/\aL (.vk 1 0 1 false) [iD k,.int .i64 14,.int .i64 15,.int .i64 11,.int .i64 12,.int .i64 13,.int .i64 14]=some (iD op):=by
 have:k=0\/k=1\/k=2\/k=3\/k=4\/k=5:=a0B
 rcases this with rfl|rfl|rfl|rfl|rfl|rfl
 ·exact⟨14,a0B,a0B,rfl⟩
 ·exact⟨15,a0B,a0B,rfl⟩
 ·exact⟨11,a0B,a0B,rfl⟩
 ·exact⟨12,a0B,a0B,rfl⟩
 ·exact⟨13,a0B,a0B,rfl⟩
 ·exact⟨14,a0B,a0B,rfl⟩
theorem fO(h1:1<=ints)(h3:ints<=3)(ht:tables<=1)(hp:params<=2):∀(f d:Nat),d+f=3->∀{bs:a0h},Rn F X 2 0 [iD ints,iD tables,iD flags,iD own,.sl (ey ar),iD params,.sl (bV bs),iD left,iD d] (bL0 ints tables flags own ar params bs left f):=by
 intro f
 induction f with
 |zero=>
  intro d hd bs;obtain rfl:d=3:=a0B
  refine wr Y<|wg 1 Y<|wx Y (fP 12 a0B) fun|_,⟨k,bs,rfl,hk,hb⟩=>⟨Y,?_⟩
  refine Fe<|d_ Y ai ?_ ?_<;>intro h
  ·refine wg 1 Y<|wx Y (fP 9 a0B) fun|_,⟨k,bs,rfl,hk,hb⟩=>⟨Y,?_⟩
   exact jL<|wt Y ⟨.mk 1 [] k [],bs,rfl,.num k a0B,a0B⟩
  ·refine wg 1 Y<|d_ Y cg ?_ ?_<;>intro h
   ·refine wg 1 Y<|wx Y (fP 9 a0B) fun|_,⟨k,bs,rfl,hk,hb⟩=>⟨Y,?_⟩
    exact jL<|wt Y ⟨.mk 1 [] k [],bs,rfl,.num k a0B,a0B⟩
   ·refine d_ Y ai ?_ ?_<;>intro h
    ·refine wg 1 Y<|wx Y (m9 a0B a0B) fun|_,⟨k,bs,rfl,hk,hb⟩=>⟨Y,?_⟩
     exact jL<|wt Y ⟨.mk 5 (nm 120 k) 0 [],bs,rfl,.var k a0B,a0B⟩
    ·refine d_ Y ay ?_ ?_<;>intro h
     ·refine d_ Y ay ?_ ?_<;>intro h
      ·refine wg 1 Y<|wx Y (m9 a0B a0B) fun|_,⟨k,bs,rfl,hk,hb⟩=>⟨Y,?_⟩
       exact jL<|wt Y ⟨.mk 5 (nm 120 k) 0 [],bs,rfl,.var k a0B,a0B⟩
      ·refine wy Y ay<|wl Y (mA (c:=112) (n:=2) a0B a0B) rfl<|wg 1 Y<|wx Y (fP params a0B) fun|_,⟨k,bs,rfl,hk,hb⟩=>⟨Y,?_⟩
       exact oR<|wo Y (aA (nY a0B) rfl)<|wg 1 Y<|wt Y ⟨.mk 5 (nm 112 k) 0 [],bs,rfl,.mm k a0B,a0B⟩
     ·exact wn Y ay<|wy Y ay<|wt Y ⟨.mk 4 [] 0 [],bs,rfl,.now,a0B⟩
 |succ f ih=>
  intro d hd bs;refine wr Y<|wg 1 Y<|wx Y (fP 12 a0B) fun|_,⟨k,bs,rfl,hk,hb⟩=>⟨Y,?_⟩
  refine Fe<|d_ Y ai ?_ ?_<;>intro h
  ·refine wg 1 Y<|wx Y (fP 9 a0B) fun|_,⟨k,bs,rfl,hk,hb⟩=>⟨Y,?_⟩
   exact jL<|wt Y ⟨.mk 1 [] k [],bs,rfl,.num k a0B,a0B⟩
  ·refine wn Y cg<|d_ Y ai ?_ ?_<;>intro h
   ·refine wg 1 Y<|wx Y (m9 a0B a0B) fun|_,⟨k,bs,rfl,hk,hb⟩=>⟨Y,?_⟩
    exact jL<|wt Y ⟨.mk 5 (nm 120 k) 0 [],bs,rfl,.var k a0B,a0B⟩
   ·refine d_ Y ay ?_ ?_<;>intro h
    ·refine d_ Y ay ?_ ?_<;>intro h
     ·refine wg 1 Y<|wx Y (m9 a0B a0B) fun|_,⟨k,bs,rfl,hk,hb⟩=>⟨Y,?_⟩
      exact jL<|wt Y ⟨.mk 5 (nm 120 k) 0 [],bs,rfl,.var k a0B,a0B⟩
     ·refine wy Y ay<|wl Y (mA (c:=112) (n:=2) a0B a0B) rfl<|wg 1 Y<|wx Y (fP params a0B) fun|_,⟨k,bs,rfl,hk,hb⟩=>⟨Y,?_⟩
      exact oR<|wo Y (aA (nY a0B) rfl)<|wg 1 Y<|wt Y ⟨.mk 5 (nm 112 k) 0 [],bs,rfl,.mm k a0B,a0B⟩
    ·refine wn Y ay<|d_ Y ay ?_ ?_<;>intro h
     ·exact wt Y ⟨.mk 4 [] 0 [],bs,rfl,.now,a0B⟩
     ·refine d_ Y ay ?_ ?_<;>intro h
      ·refine d_ Y cg ?_ ?_<;>intro h
       ·refine wo Y oI<|wg 1 Y<|wx Y (ih (d+1) a0B) fun|_,⟨⟨o1,n1,i1,a1⟩,bs,rfl,bc,bY⟩=>⟨Y,?_⟩
        exact ol<|wg 1 Y<|wt Y ⟨.mk 6 (nm 116 0) 0 [⟨o1,n1,i1,a1⟩],bs,rfl,.get (by show 0<tables;omega) bc,a0B⟩
       ·refine wn Y ay<|wn Y ay<|wg 1 Y<|wx Y (fP 6 a0B) fun|_,⟨k,bs,rfl,hk,hb⟩=>⟨Y,?_⟩
        refine jL<|wy Y qL ?_
        (obtain⟨op,ru,gT,ho⟩:=Sn hk;refine e_ Y ho rfl ?_)
        refine wo Y oI<|wg 1 Y<|wx Y (ih (d+1) a0B) fun|_,⟨⟨o1,n1,i1,a1⟩,bs,rfl,bc,bY⟩=>⟨Y,?_⟩
        dsimp only [eA,Ex.r,St.r,c_,n_];refine wo Y oI<|wg 1 Y ?_
        (have _:=bc;refine wx Y (ih (d+1) a0B) ?_;rintro _ ⟨⟨o2,n2,i2,a2⟩,bs,rfl,ij,bM⟩;refine⟨rfl,?_⟩)
        exact MT<|wg 1 Y<|wt Y ⟨.mk op [] 0 [⟨o1,n1,i1,a1⟩,⟨o2,n2,i2,a2⟩],bs,rfl,.bin op ru gT bc ij,a0B⟩
      ·refine d_ Y ay ?_ ?_<;>intro h
       ·refine d_ Y cg ?_ ?_<;>intro h
        ·exact wt Y ⟨.mk 8 (nm 116 0) 0 [],bs,rfl,.size (by show 0<tables;omega),a0B⟩
        ·refine wn Y ay<|wg 1 Y<|wx Y (fP 6 a0B) fun|_,⟨k,bs,rfl,hk,hb⟩=>⟨Y,?_⟩
         refine jL<|wy Y qL ?_
         (obtain⟨op,ru,gT,ho⟩:=Sn hk;refine e_ Y ho rfl ?_)
         refine wo Y oI<|wg 1 Y<|wx Y (ih (d+1) a0B) fun|_,⟨⟨o1,n1,i1,a1⟩,bs,rfl,bc,bY⟩=>⟨Y,?_⟩
         dsimp only [eA,Ex.r,St.r,c_,n_];refine wo Y oI<|wg 1 Y ?_
         (have _:=bc;refine wx Y (ih (d+1) a0B) ?_;rintro _ ⟨⟨o2,n2,i2,a2⟩,bs,rfl,ij,bM⟩;refine⟨rfl,?_⟩)
         exact MT<|wg 1 Y<|wt Y ⟨.mk op [] 0 [⟨o1,n1,i1,a1⟩,⟨o2,n2,i2,a2⟩],bs,rfl,.bin op ru gT bc ij,a0B⟩
       ·refine d_ Y ay ?_ ?_<;>intro h
        ·refine wo Y oI<|wg 1 Y<|wx Y (ih (d+1) a0B) fun|_,⟨⟨o1,n1,i1,a1⟩,bs,rfl,bc,bY⟩=>⟨Y,?_⟩
         exact ol<|wg 1 Y<|wt Y ⟨.mk 9 [] 0 [⟨o1,n1,i1,a1⟩],bs,rfl,.neg bc,a0B⟩
        ·refine wg 1 Y<|wx Y (fP 6 a0B) fun|_,⟨k,bs,rfl,hk,hb⟩=>⟨Y,?_⟩
         refine jL<|wy Y qL ?_
         (obtain⟨op,ru,gT,ho⟩:=Sn hk;refine e_ Y ho rfl ?_)
         refine wo Y oI<|wg 1 Y<|wx Y (ih (d+1) a0B) fun|_,⟨⟨o1,n1,i1,a1⟩,bs,rfl,bc,bY⟩=>⟨Y,?_⟩
         dsimp only [eA,Ex.r,St.r,c_,n_];refine wo Y oI<|wg 1 Y ?_
         (have _:=bc;refine wx Y (ih (d+1) a0B) ?_;rintro _ ⟨⟨o2,n2,i2,a2⟩,bs,rfl,ij,bM⟩;refine⟨rfl,?_⟩)
         exact MT<|wg 1 Y<|wt Y ⟨.mk op [] 0 [⟨o1,n1,i1,a1⟩,⟨o2,n2,i2,a2⟩],bs,rfl,.bin op ru gT bc ij,a0B⟩
end
section
variable{own:Nat}{ar:a0f}
theorem rR:∀(l:List Fl.Ex),(Ex.rs l).length=l.length
 |[]=>rfl
 |e::l=>by show(Ex.rs l).length+1=_;rw[rR l];rfl
theorem Ya:∀(l:List Fl.Ex) (e:Fl.Ex),Ex.rs l++[Ex.r e]=Ex.rs (l++[e])
 |[],e=>rfl
 |a::l,e=>by show Ex.r a::(Ex.rs l++[Ex.r e])=_;rw[Ya l e];rfl
def ag6(ints tables flags own:Nat)(ar:a0f)(params:Nat)(bs:a0h)(left n:Nat)(o:a0d):Prop:=∃es fJ,o= .sl (Ex.rs es)::eA ints tables flags own ar params fJ left/\(∀e∈es,fS ⟨ints,tables,flags,params⟩ 3 e)/\es.length=n/\fJ.length<=bs.length
theorem aw4(h1:1<=ints)(h3:ints<=3)(ht:tables<=1)(hp:params<=2)(hn:n<=9):∀(f:Nat) (es:List Fl.Ex) (bs:a0h),es.length+f=n->(∀e∈es,fS ⟨ints,tables,flags,params⟩ 3 e)->Rn F X 3 1 (iD n:: .sl (Ex.rs es)::iD es.length::eA ints tables flags own ar params bs left) (ag6 ints tables flags own ar params bs left n):=by
 intro f
 induction f with
 |zero=>
  intro es bs hf he;exact wr Y<|wn Y ai<|wt Y ⟨es,bs,rfl,he,a0B,a0B⟩
 |succ f ih=>
  intro es bs hf he;refine wr Y<|wy Y ai<|wg 1 Y<|wx Y (fO h1 h3 ht hp 2 1 a0B) fun|_,⟨⟨o1,n1,i1,a1⟩,bs,rfl,bc,bY⟩=>⟨Y,?_⟩
  refine qi<|wg 2 Y<|wo Y (gD Y Y (by rw[rR];omega) (by rw[rR];omega))<|wo Y oI<|b_ Y ?_;have:=ih (es++[⟨o1,n1,i1,a1⟩]) bs a0F (fun e h=>by
   rcases xF.1 h with h|h
   ·exact he e h
   ·rw[xy] at h;subst h;exact bc.mono a0B)
  rw[<-Ya,xa] at this;exact this.mono fun o ⟨es',fJ,h1,h2,h3,h4⟩=>⟨es',fJ,h1,h2,h3,a0B⟩
theorem AD(h1:1<=ints)(h3:ints<=3)(ht:tables<=1)(hp:params<=2)(hn:n<=9){bs:a0h}:Rn F X 3 0 [iD ints,iD tables,iD flags,iD own,.sl (ey ar),iD params,.sl (bV bs),iD left,iD n] (ag6 ints tables flags own ar params bs left n):=by
 refine wr Y<|b_ Y ?_;exact aw4 h1 h3 ht hp hn n [] bs a0C a0C
def bK9(ints tables flags own:Nat)(ar:a0f)(params:Nat)(bs:a0h)(left f:Nat)(o:a0d):Prop:=∃e fJ,o=Ex.r e++eA ints tables flags own ar params fJ left/\ka ⟨ints,tables,flags,params⟩ f e/\fJ.length<=bs.length
theorem Gl(h1:1<=ints)(h3:ints<=3)(ht:tables<=1)(bE:flags<=2)(hp:params<=2):∀(f d:Nat),d+f=2->∀{bs:a0h},Rn F X 4 0 [iD ints,iD tables,iD flags,iD own,.sl (ey ar),iD params,.sl (bV bs),iD left,iD d] (bK9 ints tables flags own ar params bs left (f+3)):=by
 intro f
 induction f with
 |zero=>
  intro d hd bs;obtain rfl:d=2:=a0B
  refine wr Y<|wg 1 Y<|wx Y (fP 10 a0B) fun|_,⟨k,bs,rfl,hk,hb⟩=>⟨Y,?_⟩
  refine Fe<|d_ Y ay ?_ ?_<;>intro h
  ·refine wg 1 Y<|wx Y (fP 2 a0B) fun|_,⟨k,bs,rfl,hk,hb⟩=>⟨Y,?_⟩
   exact jL<|wo Y oI<|wt Y ⟨.mk (2+k) [] 0 [],bs,rfl,.lit _ a0B a0B,a0B⟩
  ·refine d_ Y ay ?_ ?_<;>intro h
   ·exact wt Y ⟨.mk 5 (nm 98 0) 0 [],bs,rfl,.b0,a0B⟩
   ·refine wg 1 Y<|d_ Y cg ?_ ?_<;>intro h
    ·exact wt Y ⟨.mk 5 (nm 98 0) 0 [],bs,rfl,.b0,a0B⟩
    ·refine d_ Y ay ?_ ?_<;>intro h
     ·refine d_ Y cg ?_ ?_<;>intro h
      ·refine wl Y (mA (c:=102) (n:=2) a0B a0B) rfl<|wg 1 Y<|wx Y (fP flags a0B) fun|_,⟨k,bs,rfl,hk,hb⟩=>⟨Y,?_⟩
       exact oR<|wo Y (aA (nY a0B) rfl)<|wg 1 Y<|wt Y ⟨.mk 5 (nm 102 k) 0 [],bs,rfl,.flag k a0B,a0B⟩
      ·refine wn Y ay<|wn Y ay<|wn Y ay<|wn Y ay<|wg 1 Y<|wx Y (fP 6 a0B) fun|_,⟨k,bs,rfl,hk,hb⟩=>⟨Y,?_⟩
       refine jL<|wo Y oI<|wg 1 Y<|wx Y (fO h1 h3 ht hp 2 1 a0B) fun|_,⟨⟨o1,n1,i1,a1⟩,bs,rfl,bc,bY⟩=>⟨Y,?_⟩
       refine mR<|wg 1 Y ?_
       (have _:=bc;refine wx Y (fO h1 h3 ht hp 2 1 a0B) ?_;rintro _ ⟨⟨o2,n2,i2,a2⟩,bs,rfl,ij,bM⟩;refine⟨rfl,?_⟩)
       exact vd<|wg 1 Y<|wt Y ⟨.mk (16+k) [] 0 [⟨o1,n1,i1,a1⟩,⟨o2,n2,i2,a2⟩],bs,rfl,.cmp _ a0B a0B bc ij,a0B⟩
     ·refine d_ Y ay ?_ ?_<;>intro h
      ·refine d_ Y cg ?_ ?_<;>intro h
       ·refine wg 1 Y<|wx Y (fO h1 h3 ht hp 2 1 a0B) fun|_,⟨⟨o1,n1,i1,a1⟩,bs,rfl,bc,bY⟩=>⟨Y,?_⟩
        exact pH<|wg 1 Y<|wt Y ⟨.mk 7 (nm 116 0) 0 [⟨o1,n1,i1,a1⟩],bs,rfl,.has (by show 0<tables;omega) bc,a0B⟩
       ·refine wn Y ay<|wn Y ay<|wn Y ay<|wg 1 Y<|wx Y (fP 6 a0B) fun|_,⟨k,bs,rfl,hk,hb⟩=>⟨Y,?_⟩
        refine jL<|wo Y oI<|wg 1 Y<|wx Y (fO h1 h3 ht hp 2 1 a0B) fun|_,⟨⟨o1,n1,i1,a1⟩,bs,rfl,bc,bY⟩=>⟨Y,?_⟩
        refine mR<|wg 1 Y ?_
        (have _:=bc;refine wx Y (fO h1 h3 ht hp 2 1 a0B) ?_;rintro _ ⟨⟨o2,n2,i2,a2⟩,bs,rfl,ij,bM⟩;refine⟨rfl,?_⟩)
        exact vd<|wg 1 Y<|wt Y ⟨.mk (16+k) [] 0 [⟨o1,n1,i1,a1⟩,⟨o2,n2,i2,a2⟩],bs,rfl,.cmp _ a0B a0B bc ij,a0B⟩
      ·refine wn Y ay<|wn Y ay<|wn Y ay<|wg 1 Y<|wx Y (fP 6 a0B) fun|_,⟨k,bs,rfl,hk,hb⟩=>⟨Y,?_⟩
       refine jL<|wo Y oI<|wg 1 Y<|wx Y (fO h1 h3 ht hp 2 1 a0B) fun|_,⟨⟨o1,n1,i1,a1⟩,bs,rfl,bc,bY⟩=>⟨Y,?_⟩
       refine mR<|wg 1 Y ?_
       (have _:=bc;refine wx Y (fO h1 h3 ht hp 2 1 a0B) ?_;rintro _ ⟨⟨o2,n2,i2,a2⟩,bs,rfl,ij,bM⟩;refine⟨rfl,?_⟩)
       exact vd<|wg 1 Y<|wt Y ⟨.mk (16+k) [] 0 [⟨o1,n1,i1,a1⟩,⟨o2,n2,i2,a2⟩],bs,rfl,.cmp _ a0B a0B bc ij,a0B⟩
 |succ f ih=>
  intro d hd bs;refine wr Y<|wg 1 Y<|wx Y (fP 10 a0B) fun|_,⟨k,bs,rfl,hk,hb⟩=>⟨Y,?_⟩
  refine Fe<|d_ Y ay ?_ ?_<;>intro h
  ·refine wg 1 Y<|wx Y (fP 2 a0B) fun|_,⟨k,bs,rfl,hk,hb⟩=>⟨Y,?_⟩
   exact jL<|wo Y oI<|wt Y ⟨.mk (2+k) [] 0 [],bs,rfl,.lit _ a0B a0B,a0B⟩
  ·refine d_ Y ay ?_ ?_<;>intro h
   ·exact wt Y ⟨.mk 5 (nm 98 0) 0 [],bs,rfl,.b0,a0B⟩
   ·refine wn Y cg<|d_ Y ay ?_ ?_<;>intro h
    ·refine d_ Y cg ?_ ?_<;>intro h
     ·refine wl Y (mA (c:=102) (n:=2) a0B a0B) rfl<|wg 1 Y<|wx Y (fP flags a0B) fun|_,⟨k,bs,rfl,hk,hb⟩=>⟨Y,?_⟩
      exact oR<|wo Y (aA (nY a0B) rfl)<|wg 1 Y<|wt Y ⟨.mk 5 (nm 102 k) 0 [],bs,rfl,.flag k a0B,a0B⟩
     ·refine wn Y ay<|wn Y ay<|wn Y ay<|wn Y ay<|wg 1 Y<|wx Y (fP 6 a0B) fun|_,⟨k,bs,rfl,hk,hb⟩=>⟨Y,?_⟩
      refine jL<|wo Y oI<|wg 1 Y<|wx Y (fO h1 h3 ht hp 2 1 a0B) fun|_,⟨⟨o1,n1,i1,a1⟩,bs,rfl,bc,bY⟩=>⟨Y,?_⟩
      refine mR<|wg 1 Y ?_
      (have _:=bc;refine wx Y (fO h1 h3 ht hp 2 1 a0B) ?_;rintro _ ⟨⟨o2,n2,i2,a2⟩,bs,rfl,ij,bM⟩;refine⟨rfl,?_⟩)
      exact vd<|wg 1 Y<|wt Y ⟨.mk (16+k) [] 0 [⟨o1,n1,i1,a1⟩,⟨o2,n2,i2,a2⟩],bs,rfl,.cmp _ a0B a0B (bc.mono a0B) (ij.mono a0B),a0B⟩
    ·refine d_ Y ay ?_ ?_<;>intro h
     ·refine d_ Y cg ?_ ?_<;>intro h
      ·refine wg 1 Y<|wx Y (fO h1 h3 ht hp 2 1 a0B) fun|_,⟨⟨o1,n1,i1,a1⟩,bs,rfl,bc,bY⟩=>⟨Y,?_⟩
       exact pH<|wg 1 Y<|wt Y ⟨.mk 7 (nm 116 0) 0 [⟨o1,n1,i1,a1⟩],bs,rfl,.has (by show 0<tables;omega) (bc.mono a0B),a0B⟩
      ·refine wn Y ay<|wn Y ay<|wn Y ay<|wg 1 Y<|wx Y (fP 6 a0B) fun|_,⟨k,bs,rfl,hk,hb⟩=>⟨Y,?_⟩
       refine jL<|wo Y oI<|wg 1 Y<|wx Y (fO h1 h3 ht hp 2 1 a0B) fun|_,⟨⟨o1,n1,i1,a1⟩,bs,rfl,bc,bY⟩=>⟨Y,?_⟩
       refine mR<|wg 1 Y ?_
       (have _:=bc;refine wx Y (fO h1 h3 ht hp 2 1 a0B) ?_;rintro _ ⟨⟨o2,n2,i2,a2⟩,bs,rfl,ij,bM⟩;refine⟨rfl,?_⟩)
       exact vd<|wg 1 Y<|wt Y ⟨.mk (16+k) [] 0 [⟨o1,n1,i1,a1⟩,⟨o2,n2,i2,a2⟩],bs,rfl,.cmp _ a0B a0B (bc.mono a0B) (ij.mono a0B),a0B⟩
     ·refine d_ Y ay ?_ ?_<;>intro h
      ·refine wo Y oI<|wg 1 Y<|wx Y (ih (d+1) a0B) fun|_,⟨⟨o1,n1,i1,a1⟩,bs,rfl,bc,bY⟩=>⟨Y,?_⟩
       exact ol<|wg 1 Y<|wt Y ⟨.mk 10 [] 0 [⟨o1,n1,i1,a1⟩],bs,rfl,.not bc,a0B⟩
      ·refine d_ Y ay ?_ ?_<;>intro h
       ·refine wo Y oI<|wg 1 Y<|wx Y (ih (d+1) a0B) fun|_,⟨⟨o1,n1,i1,a1⟩,bs,rfl,bc,bY⟩=>⟨Y,?_⟩
        refine ol<|wo Y oI<|wo Y oI<|wg 1 Y ?_
        (have _:=bc;refine wx Y (ih (d+1) a0B) ?_;rintro _ ⟨⟨o2,n2,i2,a2⟩,bs,rfl,ij,bM⟩;refine⟨rfl,?_⟩)
        dsimp only [eA,Ex.r,St.r,c_,n_];exact wg 1 Y<|wt Y ⟨.mk (16+k) [] 0 [⟨o1,n1,i1,a1⟩,⟨o2,n2,i2,a2⟩],bs,rfl,.C4 _ a0B a0B bc ij,a0B⟩
       ·refine d_ Y ay ?_ ?_<;>intro h
        ·refine wo Y oI<|wg 1 Y<|wx Y (ih (d+1) a0B) fun|_,⟨⟨o1,n1,i1,a1⟩,bs,rfl,bc,bY⟩=>⟨Y,?_⟩
         refine ol<|wo Y oI<|wo Y oI<|wg 1 Y ?_
         (have _:=bc;refine wx Y (ih (d+1) a0B) ?_;rintro _ ⟨⟨o2,n2,i2,a2⟩,bs,rfl,ij,bM⟩;refine⟨rfl,?_⟩)
         dsimp only [eA,Ex.r,St.r,c_,n_];exact wg 1 Y<|wt Y ⟨.mk (16+k) [] 0 [⟨o1,n1,i1,a1⟩,⟨o2,n2,i2,a2⟩],bs,rfl,.C4 _ a0B a0B bc ij,a0B⟩
        ·refine wg 1 Y<|wx Y (fP 6 a0B) fun|_,⟨k,bs,rfl,hk,hb⟩=>⟨Y,?_⟩
         refine jL<|wo Y oI<|wg 1 Y<|wx Y (fO h1 h3 ht hp 2 1 a0B) fun|_,⟨⟨o1,n1,i1,a1⟩,bs,rfl,bc,bY⟩=>⟨Y,?_⟩
         refine mR<|wg 1 Y ?_
         (have _:=bc;refine wx Y (fO h1 h3 ht hp 2 1 a0B) ?_;rintro _ ⟨⟨o2,n2,i2,a2⟩,bs,rfl,ij,bM⟩;refine⟨rfl,?_⟩)
         exact vd<|wg 1 Y<|wt Y ⟨.mk (16+k) [] 0 [⟨o1,n1,i1,a1⟩,⟨o2,n2,i2,a2⟩],bs,rfl,.cmp _ a0B a0B (bc.mono a0B) (ij.mono a0B),a0B⟩
end
end Go.Proofs.YthicpeihkkokmaaGreatDoor
namespace Go.Fl
mutual
def St.n:St->Nat| .mk _ _ _ _ th el=>1+St.ns th+St.ns el
def St.ns:a0p->Nat|[]=>0|s::l=>St.n s+St.ns l
end
def St.sub:St->Nat| .mk _ _ _ _ th el=>St.ns th+St.ns el
end Go.Fl
namespace Go.Proofs.YthicpeihkkokmaaGreatDoor
open Go.Ex Go.RowKit Go.Fl
variable{k:Nat}
section
section
variable{X:a0a}{ints tables flags own params:Nat}{ar:a0f}
theorem nX:∀(l:a0p),(St.rs l).length=l.length
 |[]=>rfl
 |e::l=>by show(St.rs l).length+1=_;rw[nX l];rfl
theorem OX:∀(l:a0p) (e:St),St.rs l++[St.r e]=St.rs (l++[e])
 |[],e=>rfl
 |a::l,e=>by show St.r a::(St.rs l++[St.r e])=_;rw[OX l e];rfl
theorem PK:∀(l:a0p) (e:St),St.ns (l++[e])=St.ns l+(1+St.sub e)
 |[],.mk .. =>by simp[St.ns,St.n,St.sub];omega
 |a::l,e=>by simp[St.ns,PK l e];omega
theorem nj:∀(l:a0p),l.length<=St.ns l
 |[]=>xk _
 | .mk .. ::l=>by have:=nj l;simp[St.ns,St.n];omega
theorem Yb(l:List Fl.Ex):∀row∈Ex.rs l,row.length=4/\row.all D.cell=true:=by
 induction l with
 |nil=>intro row h;cases h
 |cons e l ih=>
  obtain⟨op,nm,n,a⟩:=e;intro row h;rcases xG.1 h with rfl|h
  ·exact⟨rfl,rfl⟩
  ·exact ih row h
def lO(l:a0g):a0b:=l.map fun n=>[iD n]
theorem AZ(ar:a0f):(ey ar).length=ar.length:=xm _
theorem BM(h:k<(ey ar).length)(cS:∀l∈ar,1<=l.length/\l.length<=3/\∀n∈l,n<=2):∃l,ar[k]? =some l/\(ey ar)[k]? =some [.sl (lO l)]/\1<=(lO l).length/\(lO l).length<=3/\∀n∈l,n<=2:=by
 have hk:k<ar.length:=by rw[<-AZ];exact h
 have he:ar[k]? =some ar[k]:=xc hk;refine⟨ar[k],he,?_,?_⟩
 ·show(ar.map _)[k]? =_;rw[xx,he];rfl
 ·have:=cS ar[k] (List.getElem_mem hk);rw[show(lO ar[k]).length=ar[k].length from xm _];exact this
theorem Bn{l:a0g}(h:k<(lO l).length)(hl:∀n∈l,n<=2):∃n,l[k]? =some n/\(lO l)[k]? =some [iD n]/\n<=2:=by
 have hk:k<l.length:=by rw[<-show(lO l).length=l.length from xm _];exact h
 have he:l[k]? =some l[k]:=xc hk;refine⟨l[k],he,?_,hl _ (List.getElem_mem hk)⟩;show(l.map _)[k]? =_;rw[xx,he];rfl
theorem Mg{α:Type}:∀{l:List α},l.length=2->∃a b,l=[a,b]
 |[a,b],_=>⟨a,b,rfl⟩
theorem H3(h:k<3):aL (.vk 1 0 1 false) [iD k,.str [97],.str [98],.str [99]]=some (.str [(97+k).toUInt8]):=by
 have:k=0\/k=1\/k=2:=a0B
 rcases this with rfl|rfl|rfl<;>rfl
def bA6(ints tables flags own:Nat)(ar:a0f)(params:Nat)(bs:a0h)(left f:Nat)(o:a0d):Prop:=∃s fJ kz,o=St.r s++eA ints tables flags own ar params fJ kz/\ma ⟨⟨ints,tables,flags,params⟩,ar,own⟩ (j8 ⟨⟨ints,tables,flags,params⟩,ar,own⟩ f) s/\fJ.length<=bs.length/\kz+St.sub s<=left
def R6(ints tables flags own:Nat)(ar:a0f)(params:Nat)(bs:a0h)(left f:Nat)(o:a0d):Prop:=∃l fJ kz,o= .sl (St.rs l)::eA ints tables flags own ar params fJ kz/\j8 ⟨⟨ints,tables,flags,params⟩,ar,own⟩ (f+1) l/\fJ.length<=bs.length/\kz+St.ns l<=left
theorem aU7(h1:1<=ints)(h3:ints<=3)(ht:tables<=1)(bE:flags<=2)(hp:params<=2)(kB:own<(ey ar).length)(gX:(ey ar).length<=3)(cS:∀l∈ar,1<=l.length/\l.length<=3/\∀n∈l,n<=2){L:Nat}
 (ih:∀(d f:Nat),d+f=3->∀(bs:a0h) (left:Nat),left<=L->Rn F X 6 0 [iD ints,iD tables,iD flags,iD own,.sl (ey ar),iD params,.sl (bV bs),iD left,iD d] (R6 ints tables flags own ar params bs left f)):
 ∀(d f:Nat),d+f=3->∀(kk:Nat) (bs:a0h) (left:Nat),kk<14->left<=L->Rn F X 5 0 [iD ints,iD tables,iD flags,iD own,.sl (ey ar),iD params,.sl (bV bs),iD left,iD kk,iD d] (bA6 ints tables flags own ar params bs left f):=by
 intro d f hd kk bs left gU By;cases f with
 |zero=>
  refine wr Y<|d_ Y ay ?_ ?_<;>intro h
  ·refine wg 1 Y<|wx Y (Gl h1 h3 ht bE hp 2 0 a0B) fun|_,⟨⟨o1,n1,i1,a1⟩,bs,rfl,bc,bY⟩=>⟨Y,?_⟩
   exact kj<|wg 1 Y<|wt Y ⟨.mk 1 (nm 98 0) [] [⟨o1,n1,i1,a1⟩] [] [],bs,left,rfl,.BS bc,a0B,by simp[St.sub,St.ns]⟩
  ·refine d_ Y ay ?_ ?_<;>intro h
   ·refine d_ Y cg ?_ ?_<;>intro h
    ·refine wg 1 Y<|wx Y (fO h1 h3 ht hp 3 0 a0B) fun|_,⟨⟨o1,n1,i1,a1⟩,bs,rfl,bc,bY⟩=>⟨Y,?_⟩
     refine kj<|wg 1 Y ?_
     (have _:=bc;refine wx Y (fO h1 h3 ht hp 3 0 a0B) ?_;rintro _ ⟨⟨o2,n2,i2,a2⟩,bs,rfl,ij,bM⟩;refine⟨rfl,?_⟩)
     exact MV<|wg 1 Y<|wt Y ⟨.mk 2 (nm 116 0) [] [⟨o1,n1,i1,a1⟩,⟨o2,n2,i2,a2⟩] [] [],bs,left,rfl,.put (by show 0<tables;omega) bc ij,a0B,by simp[St.sub,St.ns]⟩
    ·refine wn Y ay<|wn Y ay<|wn Y ay<|wn Y ay<|wn Y ay<|wn Y ay<|wn Y ay<|wn Y ay<|wn Y ay<|wg 1 Y<|wx Y (m9 a0B a0B) fun|_,⟨ki,bs,rfl,iJ,hb⟩=>⟨Y,?_⟩
     refine gS<|wg 1 Y<|wx Y (fO h1 h3 ht hp 3 0 a0B) fun|_,⟨⟨o1,n1,i1,a1⟩,bs,rfl,bc,bY⟩=>⟨Y,?_⟩
     exact ol<|wg 1 Y<|wt Y ⟨.mk 1 (nm 120 ki) [] [⟨o1,n1,i1,a1⟩] [] [],bs,left,rfl,.nz ki iJ bc,a0B,by simp[St.sub,St.ns]⟩
   ·refine d_ Y ay ?_ ?_<;>intro h
    ·refine d_ Y cg ?_ ?_<;>intro h
     ·refine wg 1 Y<|wx Y (fO h1 h3 ht hp 3 0 a0B) fun|_,⟨⟨o1,n1,i1,a1⟩,bs,rfl,bc,bY⟩=>⟨Y,?_⟩
      exact kj<|wg 1 Y<|wt Y ⟨.mk 3 (nm 116 0) [] [⟨o1,n1,i1,a1⟩] [] [],bs,left,rfl,.del (by show 0<tables;omega) bc,a0B,by simp[St.sub,St.ns]⟩
     ·refine wn Y ay<|wn Y ay<|wn Y ay<|wn Y ay<|wn Y ay<|wn Y ay<|wn Y ay<|wn Y ay<|wg 1 Y<|wx Y (m9 a0B a0B) fun|_,⟨ki,bs,rfl,iJ,hb⟩=>⟨Y,?_⟩
      refine gS<|wg 1 Y<|wx Y (fO h1 h3 ht hp 3 0 a0B) fun|_,⟨⟨o1,n1,i1,a1⟩,bs,rfl,bc,bY⟩=>⟨Y,?_⟩
      exact ol<|wg 1 Y<|wt Y ⟨.mk 1 (nm 120 ki) [] [⟨o1,n1,i1,a1⟩] [] [],bs,left,rfl,.nz ki iJ bc,a0B,by simp[St.sub,St.ns]⟩
    ·refine d_ Y ay ?_ ?_<;>intro h
     ·refine wn Y ai<|wn Y ay<|wn Y ay<|wn Y ay<|wn Y ay<|wn Y ay<|wn Y ay<|wg 1 Y<|wx Y (m9 a0B a0B) fun|_,⟨ki,bs,rfl,iJ,hb⟩=>⟨Y,?_⟩
      refine gS<|wg 1 Y<|wx Y (fO h1 h3 ht hp 3 0 a0B) fun|_,⟨⟨o1,n1,i1,a1⟩,bs,rfl,bc,bY⟩=>⟨Y,?_⟩
      exact ol<|wg 1 Y<|wt Y ⟨.mk 1 (nm 120 ki) [] [⟨o1,n1,i1,a1⟩] [] [],bs,left,rfl,.nz ki iJ bc,a0B,by simp[St.sub,St.ns]⟩
     ·refine d_ Y ay ?_ ?_<;>intro h
      ·refine wn Y ai<|wn Y ay<|wn Y ay<|wn Y ay<|wn Y ay<|wn Y ay<|wn Y ay<|wg 1 Y<|wx Y (m9 a0B a0B) fun|_,⟨ki,bs,rfl,iJ,hb⟩=>⟨Y,?_⟩
       refine gS<|wg 1 Y<|wx Y (fO h1 h3 ht hp 3 0 a0B) fun|_,⟨⟨o1,n1,i1,a1⟩,bs,rfl,bc,bY⟩=>⟨Y,?_⟩
       exact ol<|wg 1 Y<|wt Y ⟨.mk 1 (nm 120 ki) [] [⟨o1,n1,i1,a1⟩] [] [],bs,left,rfl,.nz ki iJ bc,a0B,by simp[St.sub,St.ns]⟩
      ·refine d_ Y ay ?_ ?_<;>intro h
       ·refine wn Y ai<|wn Y ay<|wn Y ay<|wn Y ay<|wn Y ay<|wn Y ay<|wg 1 Y<|wx Y (m9 a0B a0B) fun|_,⟨ki,bs,rfl,iJ,hb⟩=>⟨Y,?_⟩
        refine gS<|wg 1 Y<|wx Y (fO h1 h3 ht hp 3 0 a0B) fun|_,⟨⟨o1,n1,i1,a1⟩,bs,rfl,bc,bY⟩=>⟨Y,?_⟩
        exact ol<|wg 1 Y<|wt Y ⟨.mk 1 (nm 120 ki) [] [⟨o1,n1,i1,a1⟩] [] [],bs,left,rfl,.nz ki iJ bc,a0B,by simp[St.sub,St.ns]⟩
       ·refine d_ Y ay ?_ ?_<;>intro h
        ·refine wo Y bf<|wg 1 Y<|wx Y (fP (ey ar).length a0B) fun|_,⟨to,bs,rfl,tX,hb⟩=>⟨Y,?_⟩
         refine mf ?_
         (obtain⟨l,hl,lq,gg,dQ,aW⟩:=BM tX cS;refine e_ Y (aA lq rfl) rfl ?_)
         refine wg 1 Y<|wo Y bf<|wg 1 Y<|wx Y (fP (lO l).length a0B) fun|_,⟨hh,bs,rfl,uc,hb⟩=>⟨Y,?_⟩
         refine jn<|Wp.dO Y (qL (n:=3)) (xK tX gX)<|wo Y (H3 a0B)<|wo Y (aA (by assumption) rfl)<|wg 1 Y ?_
         (obtain⟨n,hn,lU,gf⟩:=Bn uc aW;refine e_ Y (aA lU rfl) rfl ?_)
         refine wg 1 Y<|wl Y (mA (c:=104) (n:=3) a0B a0B) rfl<|wo Y (aA (nY a0B) rfl)<|wg 2 Y<|wx Y (AD h1 h3 ht hp (n:=n) a0B) fun|_,⟨es,bs,rfl,dS,fX,bM⟩=>⟨Y,?_⟩
         exact MU<|wt Y ⟨.mk 6 [(97+to).toUInt8] (nm 104 hh) es [] [],bs,left,rfl,.send to hh n hl hn dS fX,a0B,by simp[St.sub,St.ns]⟩
        ·refine d_ Y ay ?_ ?_<;>intro h
         ·refine wo Y bf<|wg 1 Y<|wx Y (fP (ey ar).length a0B) fun|_,⟨to,bs,rfl,tX,hb⟩=>⟨Y,?_⟩
          refine mf ?_
          (obtain⟨l,hl,lq,gg,dQ,aW⟩:=BM tX cS;refine e_ Y (aA lq rfl) rfl ?_)
          refine wg 1 Y<|wo Y bf<|wg 1 Y<|wx Y (fP (lO l).length a0B) fun|_,⟨hh,bs,rfl,uc,hb⟩=>⟨Y,?_⟩
          refine jn<|Wp.dO Y (qL (n:=3)) (xK tX gX)<|wo Y (H3 a0B)<|wo Y (aA (by assumption) rfl)<|wg 1 Y ?_
          (obtain⟨n,hn,lU,gf⟩:=Bn uc aW;refine e_ Y (aA lU rfl) rfl ?_)
          refine wg 1 Y<|wl Y (mA (c:=104) (n:=3) a0B a0B) rfl<|wo Y (aA (nY a0B) rfl)<|wg 2 Y<|wx Y (AD h1 h3 ht hp (n:=n) a0B) fun|_,⟨es,bs,rfl,dS,fX,bM⟩=>⟨Y,?_⟩
          exact MU<|wt Y ⟨.mk 6 [(97+to).toUInt8] (nm 104 hh) es [] [],bs,left,rfl,.send to hh n hl hn dS fX,a0B,by simp[St.sub,St.ns]⟩
         ·refine d_ Y ay ?_ ?_<;>intro h
          ·(obtain⟨l,hl,lq,gg,dQ,aW⟩:=BM kB cS;refine e_ Y (aA lq rfl) rfl ?_)
           refine wg 1 Y<|wo Y bf<|wg 1 Y<|wx Y (fP (lO l).length a0B) fun|_,⟨hh,bs,rfl,uc,hb⟩=>⟨Y,?_⟩
           refine kj<|wg 1 Y<|wx Y (fO h1 h3 ht hp 2 1 a0B) fun|_,⟨⟨o1,n1,i1,a1⟩,bs,rfl,bc,bY⟩=>⟨Y,?_⟩
           refine MV<|wo Y (aA (by assumption) rfl)<|wg 1 Y ?_
           (obtain⟨n,hn,lU,gf⟩:=Bn uc aW;refine e_ Y (aA lU rfl) rfl ?_)
           refine wg 1 Y<|wl Y (mA (c:=104) (n:=3) a0B a0B) rfl<|wo Y (aA (nY a0B) rfl)<|wg 2 Y<|wx Y (AD h1 h3 ht hp (n:=n) a0B) fun|_,⟨es,bs,rfl,dS,fX,bM⟩=>⟨Y,?_⟩
           dsimp only [eA,Ex.r,St.r,c_,n_];exact wg 1 Y<|wo Y (Bb (Yb _) (by rw[rR,fX];show 1+n<=_;omega) (by rw[rR,fX];show(1+n)*56<=_;omega))<|wt Y ⟨.mk 7 [] (nm 104 hh) (⟨o1,n1,i1,a1⟩::es) [] [],bs,left,rfl,.Ci hh n hl hn (fun e h=>by rcases xG.1 h with rfl|h;exact bc.mono a0B;exact dS e h) (by rw[xi,fX]),a0B,by simp[St.sub,St.ns]⟩
          ·refine d_ Y ay ?_ ?_<;>intro h
           ·refine wn Y ai<|wn Y ay<|wg 1 Y<|wx Y (m9 a0B a0B) fun|_,⟨ki,bs,rfl,iJ,hb⟩=>⟨Y,?_⟩
            refine gS<|wg 1 Y<|wx Y (fO h1 h3 ht hp 3 0 a0B) fun|_,⟨⟨o1,n1,i1,a1⟩,bs,rfl,bc,bY⟩=>⟨Y,?_⟩
            exact ol<|wg 1 Y<|wt Y ⟨.mk 1 (nm 120 ki) [] [⟨o1,n1,i1,a1⟩] [] [],bs,left,rfl,.nz ki iJ bc,a0B,by simp[St.sub,St.ns]⟩
           ·refine d_ Y ay ?_ ?_<;>intro h
            ·refine wg 1 Y<|wx Y (fP 3 a0B) fun|_,⟨k,bs,rfl,hk,hb⟩=>⟨Y,?_⟩
             refine gS<|d_ Y ay ?_ ?_<;>intro h
             ·exact wt Y ⟨.mk 10 [] [] [] [] [],bs,left,rfl,.stop,a0B,by simp[St.sub,St.ns]⟩
             ·refine wg 1 Y<|wx Y (m9 a0B a0B) fun|_,⟨ki,bs,rfl,iJ,hb⟩=>⟨Y,?_⟩
              refine oR<|wg 1 Y<|wx Y (fO h1 h3 ht hp 3 0 a0B) fun|_,⟨⟨o1,n1,i1,a1⟩,bs,rfl,bc,bY⟩=>⟨Y,?_⟩
              exact mR<|wg 1 Y<|wt Y ⟨.mk 1 (nm 120 ki) [] [⟨o1,n1,i1,a1⟩] [] [],bs,left,rfl,.nz ki iJ bc,a0B,by simp[St.sub,St.ns]⟩
            ·refine wg 1 Y<|wx Y (m9 a0B a0B) fun|_,⟨ki,bs,rfl,iJ,hb⟩=>⟨Y,?_⟩
             refine gS<|wg 1 Y<|wx Y (fO h1 h3 ht hp 3 0 a0B) fun|_,⟨⟨o1,n1,i1,a1⟩,bs,rfl,bc,bY⟩=>⟨Y,?_⟩
             exact ol<|wg 1 Y<|wt Y ⟨.mk 1 (nm 120 ki) [] [⟨o1,n1,i1,a1⟩] [] [],bs,left,rfl,.nz ki iJ bc,a0B,by simp[St.sub,St.ns]⟩
 |succ f=>
  refine wr Y<|d_ Y ay ?_ ?_<;>intro h
  ·refine wg 1 Y<|wx Y (Gl h1 h3 ht bE hp 2 0 a0B) fun|_,⟨⟨o1,n1,i1,a1⟩,bs,rfl,bc,bY⟩=>⟨Y,?_⟩
   exact kj<|wg 1 Y<|wt Y ⟨.mk 1 (nm 98 0) [] [⟨o1,n1,i1,a1⟩] [] [],bs,left,rfl,.BS bc,a0B,by simp[St.sub,St.ns]⟩
  ·refine d_ Y ay ?_ ?_<;>intro h
   ·refine d_ Y cg ?_ ?_<;>intro h
    ·refine wg 1 Y<|wx Y (fO h1 h3 ht hp 3 0 a0B) fun|_,⟨⟨o1,n1,i1,a1⟩,bs,rfl,bc,bY⟩=>⟨Y,?_⟩
     refine kj<|wg 1 Y ?_
     (have _:=bc;refine wx Y (fO h1 h3 ht hp 3 0 a0B) ?_;rintro _ ⟨⟨o2,n2,i2,a2⟩,bs,rfl,ij,bM⟩;refine⟨rfl,?_⟩)
     exact MV<|wg 1 Y<|wt Y ⟨.mk 2 (nm 116 0) [] [⟨o1,n1,i1,a1⟩,⟨o2,n2,i2,a2⟩] [] [],bs,left,rfl,.put (by show 0<tables;omega) bc ij,a0B,by simp[St.sub,St.ns]⟩
    ·refine wn Y ay<|wn Y ay<|wn Y ay<|wn Y ay<|wn Y ay<|wn Y ay<|wn Y ay<|wn Y ay<|wn Y ay<|wg 1 Y<|wx Y (m9 a0B a0B) fun|_,⟨ki,bs,rfl,iJ,hb⟩=>⟨Y,?_⟩
     refine gS<|wg 1 Y<|wx Y (fO h1 h3 ht hp 3 0 a0B) fun|_,⟨⟨o1,n1,i1,a1⟩,bs,rfl,bc,bY⟩=>⟨Y,?_⟩
     exact ol<|wg 1 Y<|wt Y ⟨.mk 1 (nm 120 ki) [] [⟨o1,n1,i1,a1⟩] [] [],bs,left,rfl,.nz ki iJ bc,a0B,by simp[St.sub,St.ns]⟩
   ·refine d_ Y ay ?_ ?_<;>intro h
    ·refine d_ Y cg ?_ ?_<;>intro h
     ·refine wg 1 Y<|wx Y (fO h1 h3 ht hp 3 0 a0B) fun|_,⟨⟨o1,n1,i1,a1⟩,bs,rfl,bc,bY⟩=>⟨Y,?_⟩
      exact kj<|wg 1 Y<|wt Y ⟨.mk 3 (nm 116 0) [] [⟨o1,n1,i1,a1⟩] [] [],bs,left,rfl,.del (by show 0<tables;omega) bc,a0B,by simp[St.sub,St.ns]⟩
     ·refine wn Y ay<|wn Y ay<|wn Y ay<|wn Y ay<|wn Y ay<|wn Y ay<|wn Y ay<|wn Y ay<|wg 1 Y<|wx Y (m9 a0B a0B) fun|_,⟨ki,bs,rfl,iJ,hb⟩=>⟨Y,?_⟩
      refine gS<|wg 1 Y<|wx Y (fO h1 h3 ht hp 3 0 a0B) fun|_,⟨⟨o1,n1,i1,a1⟩,bs,rfl,bc,bY⟩=>⟨Y,?_⟩
      exact ol<|wg 1 Y<|wt Y ⟨.mk 1 (nm 120 ki) [] [⟨o1,n1,i1,a1⟩] [] [],bs,left,rfl,.nz ki iJ bc,a0B,by simp[St.sub,St.ns]⟩
    ·refine d_ Y ay ?_ ?_<;>intro h
     ·refine wy Y ai<|wg 1 Y<|wx Y (Gl h1 h3 ht bE hp 2 0 a0B) fun|_,⟨⟨o1,n1,i1,a1⟩,bs,rfl,bc,bY⟩=>⟨Y,?_⟩
      refine kj<|wo Y oI<|wg 1 Y<|wx Y (ih (d+1) f a0B _ _ a0B) fun|_,⟨th,bs,left,rfl,li,Mo,Mn⟩=>⟨Y,?_⟩
      refine jn<|wo Y oI<|wg 1 Y ?_
      (have _:=li;refine wx Y (ih (d+1) f a0B _ _ a0B) ?_;rintro _ ⟨el,bs,left,rfl,fX,bH6,bH5⟩;refine⟨rfl,?_⟩)
      dsimp only [eA,Ex.r,St.r,c_,n_];exact wg 1 Y<|wt Y ⟨.mk 4 [] [] [⟨o1,n1,i1,a1⟩] th el,bs,left,rfl,.cond bc li fX,a0B,by show _+(St.ns th+St.ns el)<=_;omega⟩
     ·refine d_ Y ay ?_ ?_<;>intro h
      ·refine wy Y ai<|wg 1 Y<|wx Y (Gl h1 h3 ht bE hp 2 0 a0B) fun|_,⟨⟨o1,n1,i1,a1⟩,bs,rfl,bc,bY⟩=>⟨Y,?_⟩
       refine kj<|wo Y oI<|wg 1 Y<|wx Y (ih (d+1) f a0B _ _ a0B) fun|_,⟨th,bs,left,rfl,li,Mo,Mn⟩=>⟨Y,?_⟩
       refine jn<|wo Y oI<|wg 1 Y ?_
       (have _:=li;refine wx Y (ih (d+1) f a0B _ _ a0B) ?_;rintro _ ⟨el,bs,left,rfl,fX,bH6,bH5⟩;refine⟨rfl,?_⟩)
       dsimp only [eA,Ex.r,St.r,c_,n_];exact wg 1 Y<|wt Y ⟨.mk 4 [] [] [⟨o1,n1,i1,a1⟩] th el,bs,left,rfl,.cond bc li fX,a0B,by show _+(St.ns th+St.ns el)<=_;omega⟩
      ·refine d_ Y ay ?_ ?_<;>intro h
       ·refine d_ Y ai ?_ ?_<;>intro h
        ·refine wg 1 Y<|wx Y (Gl h1 h3 ht bE hp 2 0 a0B) fun|_,⟨⟨o1,n1,i1,a1⟩,bs,rfl,bc,bY⟩=>⟨Y,?_⟩
         refine kj<|wo Y oI<|wg 1 Y<|wx Y (ih (d+1) f a0B _ _ a0B) fun|_,⟨th,bs,left,rfl,li,Mo,Mn⟩=>⟨Y,?_⟩
         exact jn<|wg 1 Y<|wt Y ⟨.mk 5 [] [] [⟨o1,n1,i1,a1⟩] th [],bs,left,rfl,.EB bc li,a0B,by show _+(St.ns th+0)<=_;omega⟩
        ·refine wn Y ay<|wn Y ay<|wn Y ay<|wn Y ay<|wn Y ay<|wg 1 Y<|wx Y (m9 a0B a0B) fun|_,⟨ki,bs,rfl,iJ,hb⟩=>⟨Y,?_⟩
         refine gS<|wg 1 Y<|wx Y (fO h1 h3 ht hp 3 0 a0B) fun|_,⟨⟨o1,n1,i1,a1⟩,bs,rfl,bc,bY⟩=>⟨Y,?_⟩
         exact ol<|wg 1 Y<|wt Y ⟨.mk 1 (nm 120 ki) [] [⟨o1,n1,i1,a1⟩] [] [],bs,left,rfl,.nz ki iJ bc,a0B,by simp[St.sub,St.ns]⟩
       ·refine d_ Y ay ?_ ?_<;>intro h
        ·refine wo Y bf<|wg 1 Y<|wx Y (fP (ey ar).length a0B) fun|_,⟨to,bs,rfl,tX,hb⟩=>⟨Y,?_⟩
         refine mf ?_
         (obtain⟨l,hl,lq,gg,dQ,aW⟩:=BM tX cS;refine e_ Y (aA lq rfl) rfl ?_)
         refine wg 1 Y<|wo Y bf<|wg 1 Y<|wx Y (fP (lO l).length a0B) fun|_,⟨hh,bs,rfl,uc,hb⟩=>⟨Y,?_⟩
         refine jn<|Wp.dO Y (qL (n:=3)) (xK tX gX)<|wo Y (H3 a0B)<|wo Y (aA (by assumption) rfl)<|wg 1 Y ?_
         (obtain⟨n,hn,lU,gf⟩:=Bn uc aW;refine e_ Y (aA lU rfl) rfl ?_)
         refine wg 1 Y<|wl Y (mA (c:=104) (n:=3) a0B a0B) rfl<|wo Y (aA (nY a0B) rfl)<|wg 2 Y<|wx Y (AD h1 h3 ht hp (n:=n) a0B) fun|_,⟨es,bs,rfl,dS,fX,bM⟩=>⟨Y,?_⟩
         exact MU<|wt Y ⟨.mk 6 [(97+to).toUInt8] (nm 104 hh) es [] [],bs,left,rfl,.send to hh n hl hn dS fX,a0B,by simp[St.sub,St.ns]⟩
        ·refine d_ Y ay ?_ ?_<;>intro h
         ·refine wo Y bf<|wg 1 Y<|wx Y (fP (ey ar).length a0B) fun|_,⟨to,bs,rfl,tX,hb⟩=>⟨Y,?_⟩
          refine mf ?_
          (obtain⟨l,hl,lq,gg,dQ,aW⟩:=BM tX cS;refine e_ Y (aA lq rfl) rfl ?_)
          refine wg 1 Y<|wo Y bf<|wg 1 Y<|wx Y (fP (lO l).length a0B) fun|_,⟨hh,bs,rfl,uc,hb⟩=>⟨Y,?_⟩
          refine jn<|Wp.dO Y (qL (n:=3)) (xK tX gX)<|wo Y (H3 a0B)<|wo Y (aA (by assumption) rfl)<|wg 1 Y ?_
          (obtain⟨n,hn,lU,gf⟩:=Bn uc aW;refine e_ Y (aA lU rfl) rfl ?_)
          refine wg 1 Y<|wl Y (mA (c:=104) (n:=3) a0B a0B) rfl<|wo Y (aA (nY a0B) rfl)<|wg 2 Y<|wx Y (AD h1 h3 ht hp (n:=n) a0B) fun|_,⟨es,bs,rfl,dS,fX,bM⟩=>⟨Y,?_⟩
          exact MU<|wt Y ⟨.mk 6 [(97+to).toUInt8] (nm 104 hh) es [] [],bs,left,rfl,.send to hh n hl hn dS fX,a0B,by simp[St.sub,St.ns]⟩
         ·refine d_ Y ay ?_ ?_<;>intro h
          ·(obtain⟨l,hl,lq,gg,dQ,aW⟩:=BM kB cS;refine e_ Y (aA lq rfl) rfl ?_)
           refine wg 1 Y<|wo Y bf<|wg 1 Y<|wx Y (fP (lO l).length a0B) fun|_,⟨hh,bs,rfl,uc,hb⟩=>⟨Y,?_⟩
           refine kj<|wg 1 Y<|wx Y (fO h1 h3 ht hp 2 1 a0B) fun|_,⟨⟨o1,n1,i1,a1⟩,bs,rfl,bc,bY⟩=>⟨Y,?_⟩
           refine MV<|wo Y (aA (by assumption) rfl)<|wg 1 Y ?_
           (obtain⟨n,hn,lU,gf⟩:=Bn uc aW;refine e_ Y (aA lU rfl) rfl ?_)
           refine wg 1 Y<|wl Y (mA (c:=104) (n:=3) a0B a0B) rfl<|wo Y (aA (nY a0B) rfl)<|wg 2 Y<|wx Y (AD h1 h3 ht hp (n:=n) a0B) fun|_,⟨es,bs,rfl,dS,fX,bM⟩=>⟨Y,?_⟩
           dsimp only [eA,Ex.r,St.r,c_,n_];exact wg 1 Y<|wo Y (Bb (Yb _) (by rw[rR,fX];show 1+n<=_;omega) (by rw[rR,fX];show(1+n)*56<=_;omega))<|wt Y ⟨.mk 7 [] (nm 104 hh) (⟨o1,n1,i1,a1⟩::es) [] [],bs,left,rfl,.Ci hh n hl hn (fun e h=>by rcases xG.1 h with rfl|h;exact bc.mono a0B;exact dS e h) (by rw[xi,fX]),a0B,by simp[St.sub,St.ns]⟩
          ·refine d_ Y ay ?_ ?_<;>intro h
           ·refine wy Y ai<|wg 1 Y<|wx Y (fP 2 a0B) fun|_,⟨k,bs,rfl,hk,hb⟩=>⟨Y,?_⟩
            refine gS<|d_ Y ay ?_ ?_<;>intro h
            ·refine wg 1 Y<|wx Y (AD h1 h3 ht hp (n:=2) a0B) fun|_,⟨es,bs,rfl,dS,fX,bM⟩=>⟨Y,?_⟩
             refine oR<|wo Y oI<|wg 1 Y<|wx Y (ih (d+1) f a0B _ _ a0B) fun|_,⟨th,bs,left,rfl,li,Mo,Mn⟩=>⟨Y,?_⟩
             refine Fc ?_
             (obtain⟨a,b,rfl⟩:=Mg fX;exact wt Y ⟨.mk 8 [] [] [a,b] [] th,bs,left,rfl,.store (dS a a0C) (dS b a0C) li,a0B,by show _+(0+St.ns th)<=_;omega⟩)
            ·refine wg 1 Y<|wx Y (m9 a0B a0B) fun|_,⟨ki,bs,rfl,iJ,hb⟩=>⟨Y,?_⟩
             refine oR<|wg 1 Y<|wx Y (fO h1 h3 ht hp 3 0 a0B) fun|_,⟨⟨o1,n1,i1,a1⟩,bs,rfl,bc,bY⟩=>⟨Y,?_⟩
             refine mR<|wo Y oI<|wg 1 Y<|wx Y (ih (d+1) f a0B _ _ a0B) fun|_,⟨th,bs,left,rfl,li,Mo,Mn⟩=>⟨Y,?_⟩
             dsimp only [eA,Ex.r,St.r,c_,n_];exact wg 1 Y<|wt Y ⟨.mk 9 (nm 120 ki) [] [⟨o1,n1,i1,a1⟩] [] th,bs,left,rfl,.Eo ki iJ bc li,a0B,by show _+(0+St.ns th)<=_;omega⟩
           ·refine d_ Y ay ?_ ?_<;>intro h
            ·refine wg 1 Y<|wx Y (fP 3 a0B) fun|_,⟨k,bs,rfl,hk,hb⟩=>⟨Y,?_⟩
             refine gS<|d_ Y ay ?_ ?_<;>intro h
             ·exact wt Y ⟨.mk 10 [] [] [] [] [],bs,left,rfl,.stop,a0B,by simp[St.sub,St.ns]⟩
             ·refine wg 1 Y<|wx Y (m9 a0B a0B) fun|_,⟨ki,bs,rfl,iJ,hb⟩=>⟨Y,?_⟩
              refine oR<|wg 1 Y<|wx Y (fO h1 h3 ht hp 3 0 a0B) fun|_,⟨⟨o1,n1,i1,a1⟩,bs,rfl,bc,bY⟩=>⟨Y,?_⟩
              exact mR<|wg 1 Y<|wt Y ⟨.mk 1 (nm 120 ki) [] [⟨o1,n1,i1,a1⟩] [] [],bs,left,rfl,.nz ki iJ bc,a0B,by simp[St.sub,St.ns]⟩
            ·refine wg 1 Y<|wx Y (m9 a0B a0B) fun|_,⟨ki,bs,rfl,iJ,hb⟩=>⟨Y,?_⟩
             refine gS<|wg 1 Y<|wx Y (fO h1 h3 ht hp 3 0 a0B) fun|_,⟨⟨o1,n1,i1,a1⟩,bs,rfl,bc,bY⟩=>⟨Y,?_⟩
             exact ol<|wg 1 Y<|wt Y ⟨.mk 1 (nm 120 ki) [] [⟨o1,n1,i1,a1⟩] [] [],bs,left,rfl,.nz ki iJ bc,a0B,by simp[St.sub,St.ns]⟩
theorem aI4(h1:1<=ints)(h3:ints<=3)(ht:tables<=1)(bE:flags<=2)(hp:params<=2)(kB:own<(ey ar).length)(gX:(ey ar).length<=3)(cS:∀l∈ar,1<=l.length/\l.length<=3/\∀n∈l,n<=2):
 ∀(L:Nat),L<=12->∀(d f:Nat),d+f=3->∀(l:a0p) (bs:a0h) (left:Nat),left<=L->left+St.ns l<=12->j8 ⟨⟨ints,tables,flags,params⟩,ar,own⟩ (f+1) l->Rn F X 6 1 (iD d:: .sl (St.rs l)::eA ints tables flags own ar params bs left) (fun o=>∃l' fJ kz,o= .sl (St.rs l')::eA ints tables flags own ar params fJ kz/\j8 ⟨⟨ints,tables,flags,params⟩,ar,own⟩ (f+1) l'/\fJ.length<=bs.length/\kz+St.ns l'<=left+St.ns l):=by
 intro L
 induction L with
 |zero=>
  intro hL d f hd l bs left hl hn hb;obtain rfl:left=0:=a0B
  refine wr Y<|wo Y bf<|d_ Y cg ?_ ?_<;>intro h
  ·exact wg 1 Y<|wt Y ⟨l,bs,0,rfl,hb,a0B,a0B⟩
  ·exact wt Y ⟨l,bs,0,rfl,hb,a0B,a0B⟩
 |succ L ih=>
  intro hL d f hd l bs left hl hn hb;have ihb:∀(d f:Nat),d+f=3->∀(bs:a0h) (left:Nat),left<=L->Rn F X 6 0 [iD ints,iD tables,iD flags,iD own,.sl (ey ar),iD params,.sl (bV bs),iD left,iD d] (R6 ints tables flags own ar params bs left f):=by
   intro d f hd bs left hl;refine wr Y<|b_ Y ?_;refine(ih a0B d f hd [] bs left hl (by show left+0<=12;omega) (fun s h=>by cases h)).mono ?_;rintro _ ⟨l',fJ,kz,rfl,q1,q2,q3⟩;exact⟨l',fJ,kz,rfl,q1,q2,q3⟩
  have bg:=nj l;refine wr Y<|wo Y bf<|d_ Y cg ?_ ?_<;>intro h
  ·refine d_ Y cg ?_ ?_<;>intro h
   ·refine wg 1 Y<|wx Y (fP 14 a0B) fun|_,⟨k,bs,rfl,hk,hkb⟩=>⟨Y,?_⟩
    refine mf<|d_ Y ay ?_ ?_<;>intro h
    ·exact wt Y ⟨l,bs,left,rfl,hb,a0B,a0B⟩
    ·refine wo Y oW<|wg 1 Y<|wx Y (aU7 h1 h3 ht bE hp kB gX cS ihb d f hd k _ _ hk a0B) fun|_,⟨⟨kk,n1,n2,es,th,el⟩,bs,Eg,rfl,hs,hsb,hsn⟩=>⟨Y,?_⟩
     dsimp only [eA,Ex.r,St.r,c_,n_];refine wg 2 Y<|wo Y (gD Y Y (by rw[nX];omega) (by rw[nX];omega))<|b_ Y (Rn.mono (ds:=iD d:: .sl (St.rs l++[St.r ⟨kk,n1,n2,es,th,el⟩])::eA ints tables flags own ar params bs Eg) (by rw[OX];exact ih a0B d f hd _ bs Eg a0B (by rw[PK];omega) (fun s h=>by rcases xF.1 h with h|h;exact hb s h;rw[xy] at h;subst h;exact hs)) (by rintro _ ⟨l',fJ,kz,rfl,q1,q2,q3⟩;rw[PK] at q3;exact⟨l',fJ,kz,rfl,q1,a0B,a0B⟩))
   ·exact wt Y ⟨l,bs,left,rfl,hb,a0B,a0B⟩
  ·exact wt Y ⟨l,bs,left,rfl,hb,a0B,a0B⟩
theorem bc7(h1:1<=ints)(h3:ints<=3)(ht:tables<=1)(bE:flags<=2)(hp:params<=2)(kB:own<(ey ar).length)(gX:(ey ar).length<=3)(cS:∀l∈ar,1<=l.length/\l.length<=3/\∀n∈l,n<=2){bs:a0h}{left:Nat}(hl:left<=12):Rn F X 6 0 [iD ints,iD tables,iD flags,iD own,.sl (ey ar),iD params,.sl (bV bs),iD left,iD 0] (R6 ints tables flags own ar params bs left 3):=by
 refine wr Y<|b_ Y ?_;refine(aI4 h1 h3 ht bE hp kB gX cS 12 a0B 0 3 a0B [] bs left hl (by show left+0<=12;omega) (fun s h=>by cases h)).mono ?_;rintro _ ⟨l',fJ,kz,rfl,q1,q2,q3⟩;exact⟨l',fJ,kz,rfl,q1,q2,q3⟩
end
end
end Go.Proofs.YthicpeihkkokmaaGreatDoor
namespace Go.Fl
open Go.Ex
structure Cd where
 params:UInt8
 bytes:a0h
structure Pt where
 ints:UInt8
 tables:UInt8
 hs:List Cd
 second:List Cd
def Cd.d(c:Cd):a0d:=[bD c.params.toNat,.sl (bV c.bytes)]
def Pt.d(p:Pt):a0d:=[bD p.ints.toNat,bD p.tables.toNat,.sl (p.hs.map Cd.d),.sl (p.second.map Cd.d)]
def aP(c k:Nat):a0s:=(List.range k).map (nm c)
structure sh (ints tables flags own:Nat) (ar:a0f) (al:a0g) (k:Nat) (h:Hn):Prop where
 name:h.name=nm 104 k
 mm:∃n,al[k]? =some n/\h.params=aP 112 n/\j8 ⟨⟨ints,tables,flags,n⟩,ar,own⟩ 4 h.body
 n:St.ns h.body<=12
end Go.Fl
namespace Go.Proofs.YthicpeihkkokmaaGreatDoor
open Go.Ex Go.RowKit Go.Fl
section
variable{X:a0a}
theorem BL{α:Type}{f:α->a0d}{l:List α}{i:Nat}(h:i<(l.map f).length):∃a,l[i]? =some a/\(l.map f)[i]? =some (f a):=by
 have hi:i<l.length:=by rw[<-xm f];exact h
 exact⟨l[i],xc hi,by rw[xx,xc hi];rfl⟩
theorem yJ(a b:Nat):Rn F X 8 0 [jD a,jD b] (·=[jD (min a b)]):=by
 refine wr Y<|d_ Y ai ?_ ?_<;>intro h
 ·exact wt Y (by show[jD a]=_;rw[Nat.min_eq_left a0B])
 ·exact wt Y (by show[jD b]=_;rw[Nat.min_eq_right a0B])
theorem O7(l:a0g)(n:Nat):lO l++[[iD n]]=lO (l++[n]):=by simp[lO]
theorem AT(l:a0g):(lO l).length=l.length:=xm _
def ArQ(p:Pt)(o:a0d):Prop:=∃l,o=[.sl (lO l)]/\l.length=min 3 (max 1 (max p.hs.length p.second.length))/\∀n∈l,n<=2
theorem aD2(p:Pt):∀(f i:Nat),i+f=3->∀(l:a0g),l.length=min i (max 1 (max p.hs.length p.second.length))->(∀n∈l,n<=2)->Rn F X 9 1 (.sl (lO l)::iD i::[bD p.ints.toNat,bD p.tables.toNat,.sl (p.hs.map Cd.d),.sl (p.second.map Cd.d)]) (ArQ p):=by
 intro f
 induction f with
 |zero=>
  intro i hi l hl hn;obtain rfl:i=3:=a0B
  exact wr Y<|wg 1 Y<|wt Y ⟨l,rfl,hl,hn⟩
 |succ f ih=>
  intro i hi l hl hn;obtain⟨pi,pt,hs,second⟩:=p;have hA:(hs.map Cd.d).length=hs.length:=xm _;have hB:(second.map Cd.d).length=second.length:=xm _;dsimp only at hl ih⊢;have fj:l.length=min i (max 1 (max hs.length second.length)):=hl;refine wr Y<|wy Y ai<|wo Y bf<|d_ Y ai ?_ ?_<;>intro h
  ·(obtain⟨a,ha,hd⟩:=BL (f:=Cd.d) (l:=hs) (i:=i) a0B;refine e_ Y (aA hd rfl) rfl ?_)
   refine wg 2 Y<|oq<|wo Y (mG (b:=3) .u8 a0B)<|wo Y oC<|wg 2 Y<|wo Y (gD Y Y (by rw[AT];omega) (by rw[AT];omega))<|nL<|wo Y oA ?_
   (have:=ih (i+1) a0B (l++[a.params.toNat%3]) a0F (fun n h=>by rcases xF.1 h with h|h;exact hn n h;rw[xy] at h;omega);rw[<-O7] at this;exact b_ Y this)
  ·refine d_ Y ay ?_ ?_<;>intro h
   ·refine wg 2 Y<|wo Y (gD Y Y (by rw[AT];omega) (by rw[AT];omega))<|wo Y oA<|oq ?_
    (have:=ih (i+1) a0B (l++[1]) a0F (fun n h=>by rcases xF.1 h with h|h;exact hn n h;rw[xy] at h;omega);rw[<-O7] at this;exact b_ Y this)
   ·refine wo Y bf<|d_ Y ai ?_ ?_<;>intro h
    ·(obtain⟨a,ha,hd⟩:=BL (f:=Cd.d) (l:=second) (i:=i) a0B;refine e_ Y (aA hd rfl) rfl ?_)
     refine wg 1 Y<|oq<|wg 1 Y<|wo Y (mG (b:=3) .u8 a0B)<|wo Y oC<|wg 2 Y<|nL<|wo Y (gD Y Y (by rw[AT];omega) (by rw[AT];omega))<|wo Y oA ?_
     (have:=ih (i+1) a0B (l++[a.params.toNat%3]) a0F (fun n h=>by rcases xF.1 h with h|h;exact hn n h;rw[xy] at h;omega);rw[<-O7] at this;exact b_ Y this)
    ·exact wo Y oA<|b_ Y (ih (i+1) a0B l (by show l.length=min (i+1) (max 1 (max hs.length second.length));omega) hn)
theorem aS8(p:Pt):Rn F X 9 0 p.d (ArQ p):=by
 obtain⟨pi,pt,hs,second⟩:=p;refine wr Y<|b_ Y ?_;exact aD2 ⟨pi,pt,hs,second⟩ 3 0 a0B [] a0C (fun n h=>by cases h)
theorem az4(l:a0h)(k:Nat):(bV l).take k=bV (l.take k):=by simp[bV,List.map_take]
variable{ints tables flags own:Nat}{ar:a0f}
def HsQ(ints tables flags own:Nat)(ar:a0f)(al:a0g)(m:Nat)(o:a0d):Prop:=∃(hs:List Hn) (params:Nat) (bs:a0h) (left:Nat),o= .sl (hs.map Hn.r)::eA ints tables flags own ar params bs left/\hs.length=m/\∀k h,hs[k]? =some h->sh ints tables flags own ar al k h
theorem aU6(c k:Nat):strs (aP c k)=kH c k:=by simp[strs,aP,kH]
theorem av5(h1:1<=ints)(h3:ints<=3)(ht:tables<=1)(bE:flags<=2)(kB:own<(ey ar).length)(gX:(ey ar).length<=3)(cS:∀l∈ar,1<=l.length/\l.length<=3/\∀n∈l,n<=2){al:a0g}(aQ:ar[own]? =some al)(cs:List Cd)(cJ:cs.length<=al.length):
 ∀(f i:Nat),i+f=cs.length->∀(hs:List Hn) (params:Nat) (bs:a0h) (left:Nat),hs.length=i->(∀k h,hs[k]? =some h->sh ints tables flags own ar al k h)->Rn F X 10 1 (.sl (hs.map Hn.r):: .sl (cs.map Cd.d)::jD (cs.map Cd.d).length::iD i::eA ints tables flags own ar params bs left) (HsQ ints tables flags own ar al cs.length):=by
 have hA:(cs.map Cd.d).length=cs.length:=xm _;have am9:al.length<=3:=by
  have:=xu aQ;exact(cS al this).2.1
 intro f
 induction f with
 |zero=>
  intro i hi hs params bs left hl hk;exact wr Y<|wn Y ai<|wt Y ⟨hs,params,bs,left,rfl,a0B,hk⟩
 |succ f ih=>
  intro i hi hs params bs left hl hk;obtain⟨l,jO,lq,gg,dQ,aW⟩:=BM kB cS;obtain rfl:l=al:=by rw[aQ] at jO;cases jO;rfl
  have o5:(hs.map Hn.r).length=hs.length:=xm _;obtain⟨n,hn,lU,gf⟩:=Bn (l:=l) (k:=i) (by rw[AT];omega) aW;obtain⟨a,ha,hd⟩:=BL (f:=Cd.d) (l:=cs) (i:=i) a0B;refine wr Y<|wy Y ai<|wo Y (aA hd rfl)<|wg 1 Y<|ei<|wo Y (aA lq rfl)<|wg 1 Y<|wo Y (aA lU rfl)<|wg 1 Y<|gS<|wo Y bf<|wl Y (yJ _ 40) rfl<|wo Y (nw a0B)<|wl Y (mA (c:=104) (n:=3) a0B a0B) rfl<|qi<|wo Y (aA (nY a0B) rfl)<|wg 1 Y<|wl Y (mA (c:=112) (n:=n) a0B a0B) rfl<|wg 1 Y ?_;rw[az4];refine wx Y (bc7 h1 h3 ht bE gf kB gX cS (left:=12) a0B) fun|_,⟨l2,bs,left,rfl,bY,bM,qv⟩=>⟨Y,?_⟩
  dsimp only [eA,Ex.r,St.r,c_,n_,lh,lg,k9,kZ,kY];refine wg 2 Y<|wo Y oP<|wo Y oA<|b_ Y ?_;have:=ih (i+1) a0B (hs++[⟨nm 104 i,aP 112 n,l2⟩]) n bs left a0F (fun k h hh=>by
   rcases Nat.lt_or_ge k hs.length with bk|iL
   ·rw[xw bk] at hh;exact hk k h hh
   ·rw[xq iL] at hh;have h0:k - hs.length=0:=by
     rcases xI (k - hs.length) with h|h
     ·exact h
     ·rw[List.getElem?_eq_none a0F] at hh;cases hh
    rw[h0] at hh;cases hh;obtain rfl:k=i:=a0B
    exact⟨rfl,⟨n,hn,rfl,bY⟩,by show St.ns l2<=12;omega⟩)
  have e:(hs++[(⟨nm 104 i,aP 112 n,l2⟩:Hn)]).map Hn.r=hs.map Hn.r++[[.str (nm 104 i),.sl (kH 112 n),.sl (St.rs l2)]]:=by
   rw[List.map_append];show _++[[_,D.sl (strs (aP 112 n)),_]]=_
   rw[aU6]
  rw[e] at this;exact this
theorem yu(h1:1<=ints)(h3:ints<=3)(ht:tables<=1)(bE:flags<=2)(kB:own<(ey ar).length)(gX:(ey ar).length<=3)(cS:∀l∈ar,1<=l.length/\l.length<=3/\∀n∈l,n<=2){al:a0g}(aQ:ar[own]? =some al){cs:List Cd}(cJ:cs.length<=al.length){params left:Nat}{bs:a0h}:
 Rn F X 10 0 [iD ints,iD tables,iD flags,iD own,.sl (ey ar),iD params,.sl (bV bs),iD left,.sl (cs.map Cd.d)] (HsQ ints tables flags own ar al cs.length):=by
 refine wr Y<|wo Y bf<|b_ Y ?_;exact av5 h1 h3 ht bE kB gX cS aQ cs cJ cs.length 0 a0B [] params bs left rfl (fun k h hh=>by simp at hh)
end
end Go.Proofs.YthicpeihkkokmaaGreatDoor
