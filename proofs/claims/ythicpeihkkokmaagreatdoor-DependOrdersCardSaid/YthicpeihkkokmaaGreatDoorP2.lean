/- What these functions answer. -/
import Derived.Test.YthicpeihkkokmaaGreatDoorP1
import Derived.Test.YthicpeihkkokmaaGreatDoorA0
set_option linter.unusedVariables false
set_option linter.unusedSimpArgs false
set_option maxHeartbeats 4000000
set_option maxRecDepth 100000
namespace Go.Proofs.YthicpeihkkokmaaGreatDoor
open Go.Ex Go.RowKit Go.Sort
variable{α:Type}{X:Bv}{l:IU}{n c ints tables flags params left:Nat}
theorem M7:∀(l:List α) (j:Nat) (h:j<l.length),(l[j]::l.eraseIdx j).Perm l
 |[],j,h=>absurd h (Nat.not_lt_zero j)
 |x::l,0,_=> .refl _
 |x::l,j+1,h=>(List.Perm.swap x _ _).trans ((M7 l j (Nat.lt_of_succ_lt_succ h)).cons x)
theorem VC{β:Type}(f:α->β):∀(l:List α) (j:Nat),(l.map f).eraseIdx j=(l.eraseIdx j).map f
 |[],j=>rfl
 |x::l,0=>rfl
 |x::l,j+1=>by
  show f x::(l.map f).eraseIdx j=f x::(l.eraseIdx j).map f;rw[VC f l j]
def lH(e:Nd×Nd):Di:=[.agg (e.1.r++e.2.r),.bool true]
def cL(n:Nd):Di:=[.agg n.r,.bool true]
def kr(e:Nd×Nd):Nd×Nd:=(e.2,e.1)
theorem WS(G:G2):oh [] G=G:=(List.map_congr_left fun p _=>j_ (List.not_mem_nil)).trans (List.map_id G)
theorem V6{f:α->Di}{g:α->Di}{v:D}(hf:∀x,f x=[.agg (g x),v]){nk:Nat}(hg:∀x,(g x).length=nk){env:Di}{left:List α}{j:Nat}(hj:j<left.length):qa nk env (left.map f) j=some (env++(g left[j]++[v,.sl ((left.eraseIdx j).map f)])):=by
 unfold qa;rw[xx,xc hj];show(match some (f left[j]) with|some [D.agg kd,v]=>if kd.length=nk then some (env++(kd++[v,D.sl ((left.map f).eraseIdx j)])) else none|_=>none)=_;rw[hf];show(if(g left[j]).length=nk then some (env++(g left[j]++[v,D.sl ((left.map f).eraseIdx j)])) else none)=_;rw[i_ (hg _),VC]
section
theorem gr4{S:IU}(b3:S.length<=1000000)(A:Ca):∀(k:Nat) (left nV:Hj) (G G':G2),left.length=k->GI nV G->GI (nV.map kr) G'->nV.length+left.length<=1000000->(∀e∈nV++left,e.1∈S/\e.2∈S)->
 Rn F X 165 4 [.sl (Nd.rs S),.sl A,.sl (left.map lH),.sl (bu G),.sl (bu G')] (·=[.sl (Nd.rs S),.sl (nx (nV++left)),.sl (nx ((nV++left).map kr))])
 |0,left,nV,G,G',hl,h1,h2,hb,hS=>by
  obtain rfl:=xA hl;rw[xj] at hS⊢;refine wr Y<|Wp.pick (left:=[]) rfl (fun _=>⟨[.sl (Nd.rs S),.sl A,.sl [],.sl (bu G),.sl (bu G')],?_,?_⟩) (fun j hj=>absurd hj (Nat.not_lt_zero j))
  ·rfl
  refine wr Y<|wo Y bc<|b_ Y ?_;have:=gr7 (X:=X) h1 h2 (S:=S) (fun e he=>(hS e he).1) (fun e he=>by obtain⟨q,hq,rfl⟩:=xJ.1 he;exact(hS q hq).2) MK (by rw[xm];omega) b3 S.length 0 MK;rw[List.take_zero,WS,WS] at this;rw[show(Nd.rs S).length=S.length from xm _];exact this
 |k+1,left,nV,G,G',hl,h1,h2,hb,hS=>by
  refine wr Y<|Wp.pick (left:=left.map lH) rfl (fun e=>by rw[List.map_eq_nil_iff] at e;subst e;cases hl) (fun j hj=> ?_);have qG:j<left.length:=by rw[xm] at hj;exact hj
  refine⟨_,[.sl (Nd.rs S),.sl A,.sl ((left.eraseIdx j).map lH)]++left[j].1.r++left[j].2.r++[.bool true,.sl (bu G),.sl (bu G')],V6 (f:=lH) (g:=fun e=>e.1.r++e.2.r) (v:= .bool true) (fun _=>rfl) (fun _=>rfl) qG,rfl,?_⟩;have hp:=M7 left j qG;have aE:(left.eraseIdx j).length=k:=by have:=hp.length_eq;rw[xi] at this;omega
  generalize left[j]=e at hp⊢;generalize left.eraseIdx j=kn at hp aE⊢;obtain⟨m,n⟩:=e;have aO:(nV++[(m,n)]++kn).Perm (nV++left):=by rw[a_];exact hp.append_left nV
  have ih:=gr4 b3 A k kn (nV++[(m,n)]) (DY m n G) (DY n m G') aE (h1.add m n) (by rw[List.map_append];exact h2.add n m) (by rw[xa];show nV.length+1+kn.length<=1000000;have:=hp.length_eq;rw[xi] at this;omega) (fun e he=>hS e (aO.mem_iff.1 he));rw[Xg aO,Xg (aO.map kr)] at ih;refine wr Y ?_;obtain⟨r1,v1,j1,k1,k2,k3⟩:=YJ h1.nd m n;obtain⟨r2,v2,j2,l1,l2,l3⟩:=YJ h2.nd n m;have q1:v1.length<=nV.length:=by
   rcases k2 with rfl|k2
   ·exact xL _
   ·have:=J6 m nV;rw[<-h1.v _ k2] at this;exact this
  have q2:v2.length<=nV.length:=by
   rcases l2 with rfl|l2
   ·exact xL _
   ·have:=J6 n (nV.map kr);rw[<-h2.v _ l2,xm] at this;exact this
  have z1:(Nd.rs v1).length=v1.length:=xm _;have z2:(Nd.rs v2).length=v2.length:=xm _;refine o_ Y k1 rfl<|wg 2 Y<|wo Y oP<|wo Y k3 ?_;dsimp only [c_,n_];exact o_ Y l1 rfl<|wg 2 Y<|wo Y oP<|wo Y l3<|wj ih
abbrev Ud(fr:Di)(fo:Nat)(x1 x2 x3 x4:Int):Di:=[.ptr fr fo,gm x1,.int .u8 x2,gm x3,gm x4]
theorem gi0:GI [] []:=⟨.nil,fun p hp=>(nomatch hp),fun m=>Iff.rfl⟩
theorem gr1{E:Hj}(b1:l.length<=1000000)(b2:E.length<=1000000)(hE:∀e∈E,e.1∈l/\e.2∈l)(A:Ca)(fr:Di)(fo:Nat)(x1 x2 x3 x4:Int):∀(k:Nat) (left bI:IU),left.length=k->(bI++left).Perm l->
 Rn F X 165 1 (Ud fr fo x1 x2 x3 x4++[.sl (Nd.rs bI),.sl A,.sl (left.map cL),.sl (E.map lH),.sl []]) (·=[.sl (Nd.rs (gW l)),.sl (nx E),.sl (nx (E.map kr))])
 |0,left,bI,hl,hp=>by
  obtain rfl:=xA hl;rw[xj] at hp;refine wr Y<|Wp.pick (left:=[]) rfl (fun _=>⟨_,rfl,?_⟩) (fun j hj=>absurd hj (Nat.not_lt_zero j));refine wr Y<|wl Y (NN (l:=bI) (by rw[hp.length_eq];exact b1)) rfl<|b_ Y ?_;rw[IF hp];exact gr4 (S:=gW l) (by rw[(oN l).length_eq];exact b1) (E.map lH) E.length E [] [] [] rfl gi0 gi0 (by show 0+E.length<=1000000;omega) (fun e he=>⟨(oN l).mem_iff.2 (hE e he).1,(oN l).mem_iff.2 (hE e he).2⟩)
 |k+1,left,bI,hl,hp=>by
  refine wr Y<|Wp.pick (left:=left.map cL) rfl (fun e=>by rw[List.map_eq_nil_iff] at e;subst e;cases hl) (fun j hj=> ?_);have qG:j<left.length:=by rw[xm] at hj;exact hj
  refine⟨_,Ud fr fo x1 x2 x3 x4++[.sl (Nd.rs bI),.sl A,.sl ((left.eraseIdx j).map cL)]++left[j].r++[.bool true,.sl (E.map lH),.sl []],V6 (f:=cL) (g:=fun n=>n.r) (v:= .bool true) (fun _=>rfl) (fun _=>rfl) qG,rfl,?_⟩;have h1:=M7 left j qG;have aE:(left.eraseIdx j).length=k:=by have:=h1.length_eq;rw[xi] at this;omega
  generalize left[j]=n at h1⊢;generalize left.eraseIdx j=kn at h1 aE⊢;have aO:(bI++[n]++kn).Perm l:=by rw[a_];exact(h1.append_left bI).trans hp
  have hb:bI.length+1<=1000000:=by have:=aO.length_eq;rw[xa,xa] at this;have:bI.length+1+kn.length=l.length:=this;omega
  have z1:(Nd.rs bI).length=bI.length:=xm _;refine wr Y<|wg 2 Y<|wo Y oP ?_;have ih:=gr1 b1 b2 hE A fr fo x1 x2 x3 x4 k kn (bI++[n]) aE aO;rw[show Nd.rs (bI++[n])=Nd.rs bI++[n.r] from List.map_append] at ih;exact b_ Y ih
theorem aH3{E:Hj}(b1:l.length<=1000000)(b2:E.length<=1000000)(hE:∀e∈E,e.1∈l/\e.2∈l)(fr:Di)(fo:Nat)(x1 x2 x3 x4:Int):
 Rn F X 165 0 (Ud fr fo x1 x2 x3 x4++[.sl (l.map cL),.sl (E.map lH)]) (·=[.sl (Nd.rs (gW l)),.sl (nx E),.sl (nx (E.map kr))]):=by
 exact wr Y<|wg 2 Y<|b_ Y (gr1 b1 b2 hE (l.map cL) fr fo x1 x2 x3 x4 l.length l [] rfl (.refl _))
end
def iI(n:Nd)(l:IU):IU:=if n∈l then l else l++[n]
def sv(e:Nd×Nd)(E:Hj):Hj:=if e∈E then E else E++[e]
theorem NZ{n x:Nd}:x∈iI n l↔x∈l\/x=n:=by
 unfold iI;split
 ·exact⟨.inl,fun h=>h.elim id fun e=>by rw[e];assumption⟩
 ·rw[xF,xy]
theorem aF2{n x:Nd×Nd}{l:Hj}:x∈sv n l↔x∈l\/x=n:=by
 unfold sv;split
 ·exact⟨.inl,fun h=>h.elim id fun e=>by rw[e];assumption⟩
 ·rw[xF,xy]
theorem Jj{l:List α}{x:α}(h:l.Nodup)(hx:x∉l):(l++[x]).Nodup:=
 List.nodup_append.2 ⟨h,NS,fun a ha b hb e=>hx (by rw[<-xy.1 hb,<-e];exact ha)⟩
theorem OD{n:Nd}(h:l.Nodup):(iI n l).Nodup:=by
 unfold iI;split
 ·exact h
 ·exact Jj h ‹_›
theorem aP4{n:Nd×Nd}{l:Hj}(h:l.Nodup):(sv n l).Nodup:=by
 unfold sv;split
 ·exact h
 ·exact Jj h ‹_›
theorem U7(m n:Nd):kf m.r (cL n)=decide (n=m):=CW m n
theorem JQ{m:Nd}:∀{l:IU},(m∉l->cT m.r (l.map cL)=none)/\(m∈l->∃j,cT m.r (l.map cL)=some j/\l[j]? =some m)
 |[]=>⟨fun _=>rfl,fun h=>nomatch h⟩
 |x::l=>by
  have e:cT m.r ((x::l).map cL)=if kf m.r (cL x) then some 0 else(cT m.r (l.map cL)).map (· +1):=rfl
  rw[e,U7];by_cases hx:x=m
  ·subst hx;refine⟨fun h=>absurd xn h,fun _=>⟨0,?_,rfl⟩⟩;rw[u_ rfl,i_ Y]
  ·rw[f_ hx,j_ Bool.noConfusion];refine⟨fun h=> ?_,fun h=> ?_⟩
   ·rw[JQ.1 fun h2=>h (xo _ h2)];rfl
   ·obtain⟨j,h1,h2⟩:=JQ.2 ((xG.1 h).elim (fun e=>absurd e.symm hx) id);exact⟨j+1,by rw[h1];rfl,h2⟩
theorem Vy{m:Nd}:∀{l:IU},∃b:Bool,(jG m.r (l.map cL)).getD (.bool false)= .bool b
 |[]=>⟨false,rfl⟩
 |x::l=>by
  have e:jG m.r ((x::l).map cL)=if kf m.r (cL x) then some (.bool true) else jG m.r (l.map cL):=rfl
  rw[e];split
  ·exact⟨true,rfl⟩
  ·exact Vy
theorem XJ(n:Nd)(l:IU):∃rows b j,aF (.zV KN) [.sl (l.map cL),.agg n.r,.bool false]=some (.agg [.sl rows,.bool b,jD j])/\aF .u4 [.sl rows,jD j,.bool true]=some (.sl ((iI n l).map cL)):=by
 obtain⟨b,hb⟩:=Vy (m:=n) (l:=l);have e1:aF (.zV KN) [.sl (l.map cL),.agg n.r,.bool false]=some (.agg [.sl (if(cT n.r (l.map cL)).isSome then l.map cL else l.map cL++[[.agg n.r,.bool false]]),(jG n.r (l.map cL)).getD (.bool false),.int .i64 ((cT n.r (l.map cL)).getD (l.map cL).length:Nat)]):=rfl;have e2:∀(rows:Ca) (j:Nat) (k w:D),rows[j]? =some [k,w]->aF .u4 [.sl rows,jD j,.bool true]=some (.sl (rows.set j [k,.bool true])):=fun rows j k w h=>by
  show(match rows[j]? with|some [k,_]=>if(D.bool true).cell then some (D.sl (rows.set j [k,.bool true])) else none|_=>none)=_;rw[h];rfl
 unfold iI;by_cases h:n∈l
 ·obtain⟨j,h1,h2⟩:=JQ.2 h;refine⟨l.map cL,b,j,?_,?_⟩
  ·rw[e1,hb,h1];rfl
  ·have h3:(l.map cL)[j]? =some (cL n):=by rw[xx,h2];rfl
   rw[i_ h,e2 _ j (.agg n.r) (.bool true) h3]
   congr 2
   obtain⟨i1,i2⟩:=xe.1 h3;have:[.agg n.r,.bool true]=(l.map cL)[j]:=i2.symm;rw[this,List.set_getElem_self]
 ·have h1:=JQ.1 h;refine⟨l.map cL++[[.agg n.r,.bool false]],b,(l.map cL).length,?_,?_⟩
  ·rw[e1,hb,h1];rfl
  ·rw[j_ h,e2 _ _ (.agg n.r) (.bool false) (by rw[xq (xk _),Nat.sub_self];rfl),List.set_append_right _ _ (xk _),Nat.sub_self,List.map_append];rfl
abbrev KE:JI:=[.u8,.i64,.i64,.u8,.i64,.i64]
theorem at3(m n:Nd)(e:Nd×Nd):kf (m.r++n.r) (lH e)=decide (e=(m,n)):=by
 show kp (m.r++n.r) (e.1.r++e.2.r)=_;have h1:=CW m e.1;have h2:=CW n e.2;have h3:kp (m.r++n.r) (e.1.r++e.2.r)=(kp m.r e.1.r&&kp n.r e.2.r):=by
  show(decide (m.k=e.1.k)&& (decide (m.a=e.1.a)&& (decide (m.b=e.1.b)&&kp n.r e.2.r)))=((decide (m.k=e.1.k)&& (decide (m.a=e.1.a)&& (decide (m.b=e.1.b)&&true)))&&kp n.r e.2.r);rw[Bool.and_true,Bool.and_assoc,Bool.and_assoc]
 rw[h3,h1,h2,Bool.eq_iff_iff,xf,decide_eq_true_eq,decide_eq_true_eq,decide_eq_true_eq,Prod.ext_iff]
theorem upE(m n:Nd)(E:Hj):aF (.tI KE) [.sl (E.map lH),.agg (m.r++n.r),.bool true]=some (.sl ((sv (m,n) E).map lH)):=by
 have e1:aF (.tI KE) [.sl (E.map lH),.agg (m.r++n.r),.bool true]=some (.sl (sJ (m.r++n.r) (.bool true) (E.map lH))):=rfl;rw[e1]
 congr 2
 clear e1
 induction E with
 |nil=>rfl
 |cons e E ih=>
  show(if kf (m.r++n.r) (lH e) then[.agg (m.r++n.r),.bool true]::E.map lH else lH e::sJ (m.r++n.r) (.bool true) (E.map lH))=_;rw[at3,ih];unfold sv;by_cases he:e=(m,n)
  ·subst he;rw[u_ rfl,i_ Y,i_ xn];rfl
  ·rw[f_ he,j_ Bool.noConfusion];by_cases hm:(m,n)∈E
   ·rw[i_ hm,i_ (xo _ hm)];rfl
   ·rw[j_ hm,j_ fun h=>(xG.1 h).elim (fun h=>he h.symm) hm];rfl
theorem uo(n:Nd)(l:IU):aF (.tI KN) [.sl (l.map cL),.agg n.r,.bool true]=some (.sl ((iI n l).map cL)):=by
 have e1:aF (.tI KN) [.sl (l.map cL),.agg n.r,.bool true]=some (.sl (sJ n.r (.bool true) (l.map cL))):=rfl;rw[e1]
 congr 2
 clear e1
 induction l with
 |nil=>rfl
 |cons e l ih=>
  show(if kf n.r (cL e) then[.agg n.r,.bool true]::l.map cL else cL e::sJ n.r (.bool true) (l.map cL))=_;rw[U7,ih];unfold iI;by_cases he:e=n
  ·subst he;rw[u_ rfl,i_ Y,i_ xn];rfl
  ·rw[f_ he,j_ Bool.noConfusion];by_cases hm:n∈l
   ·rw[i_ hm,i_ (xo _ hm)];rfl
   ·rw[j_ hm,j_ fun h=>(xG.1 h).elim (fun h=>he h.symm) hm];rfl
structure Bd where
 fr:Di
 fo:Nat
 c:Int
 h:Nd
 l:IU
 E:Hj
abbrev Bd.d(b:Bd):Di:=[.ptr b.fr b.fo,gm b.c,.int .u8 b.h.k,gm b.h.a,gm b.h.b,.sl (b.l.map cL),.sl (b.E.map lH)]
def Bd.iU(b:Bd)(e:Nd×Nd):Bd:={b with l:=iI e.2 (iI e.1 b.l),E:=sv e b.E}
def Bd.jR(b:Bd)(es:Hj):Bd:=es.foldl Bd.iU b
section
variable{b:Bd}
theorem FG(m n:Nd):Rn F X 121 0 (b.d++m.r++n.r) (·=(b.iU (m,n)).d):=by
 refine wr Y ?_;obtain⟨r1,b1,j1,k1,k2⟩:=XJ m b.l;obtain⟨r2,b2,j2,l1,l2⟩:=XJ n (iI m b.l);refine o_ Y k1 rfl<|wo Y k2<|o_ Y l1 rfl<|wo Y l2 ?_;dsimp only [c_,n_];exact wo Y (upE m n b.E)<|wt Y Y
theorem Fj(n:Nd):Rn F X 123 0 (b.d++n.r) (·=(b.iU (n,b.h)).d):=by
 exact wr Y<|wl Y (FG n b.h) rfl<|wt Y Y
theorem ID(n:Nd):Rn F X 124 0 (b.d++n.r) (·=(b.iU (b.h,n)).d):=by
 exact wr Y<|wl Y (FG b.h n) rfl<|wt Y Y
theorem Wx:Rn F X 125 0 b.d (·=(b.jR [(⟨2,b.c,0⟩,b.h),(b.h,⟨2,b.c,0⟩)]).d):=by
 exact wr Y<|wl Y (Fj (b:=b) ⟨2,b.c,0⟩) rfl<|wl Y (ID (b:=b.iU (⟨2,b.c,0⟩,b.h)) ⟨2,b.c,0⟩) rfl<|wt Y Y
theorem UY(y z:Nd):Rn F X 126 0 (b.d++y.r++z.r) (·=(b.jR [(b.h,y),(b.h,z),(y,z)]).d):=by
 exact wr Y<|wl Y (FG (b:=b) b.h y) rfl<|wl Y (FG (b:=b.iU (b.h,y)) b.h z) rfl<|wl Y (FG (b:=(b.iU (b.h,y)).iU (b.h,z)) y z) rfl<|wt Y Y
end
open Go.Ex Go.RowKit Go.Fl
section
theorem rF(l:EH):(bG l).length=l.length:=xm _
theorem OC{m:Mk}(hn:1<=n):Rn F X 0 0 (m.d++[iD n]) (fun o=>∃k bs,o=iD k::Mk.d {m with bs:=bs}/\k<n/\bs.length<=m.bs.length):=by
 obtain⟨ints,tables,flags,own,ar,params,bs,left⟩:=m;refine Rn.of (fd:=oK) (t:=bD2) rfl rfl rfl rfl (e_ Y bc rfl ?_);cases bs with
 |nil=>exact Wp.dt Y ay rfl (wt Y ⟨0,[],rfl,MK,xk _⟩)
 |cons b bs=>
  refine Wp.c8 Y ay (by show ¬(((bG (b::bs)).length:Nat):Int)=0;rw[rF,xi];omega)<|e_ Y Y Y (e_ Y Y Y (e_ Y (Ai (by have:=b.toNat_lt;omega)) rfl ?_));exact wo Y (Jh (by simp[bG]) (fun r hr=>by obtain⟨x,_,rfl⟩:=xJ.1 hr;rfl))<|e_ Y (ka .i64 hn) rfl (wt Y ⟨b.toNat%n,bs,rfl,Nat.mod_lt _ hn,NS⟩)
def ku(c k:Nat):Ca:=(List.range k).map fun j=>[.str (nm c j)]
theorem aE9(c k:Nat):ku c (k+1)=ku c k++[[.str (nm c k)]]:=by simp[ku,List.range_succ]
theorem xY(c k:Nat):(ku c k).length=k:=by simp[ku]
theorem nD{k j:Nat}(h:j<k):(ku c k)[j]? =some [.str (nm c j)]:=by simp[ku,h]
theorem U4(hc:c<256)(hn:n<=9):∀(f k:Nat),k+f=n->Rn F X 7 1 [bD c,iD n,.sl (ku c k),iD k] (·=[.sl (ku c n)])
 |0,k,h=>by
  obtain rfl:k=n:=MK
  exact Rn.of (fd:=EK) (t:=al1) rfl rfl rfl rfl (Wp.c8 Y af MK (wt Y Y))
 |f+1,k,h=>by
  refine Rn.of (fd:=EK) (t:=al1) rfl rfl rfl rfl (Wp.dt Y af MK ?_);refine e_ Y (bg (a:=48) MK) rfl (e_ Y (yf MK) rfl (e_ Y (aO3 hc MK) rfl ?_));refine Wp.note (e_ Y Y Y (e_ Y (gb rfl rfl (by rw[xY];omega) (by rw[xY];omega)) rfl (e_ Y (bg (b:=1) MK) rfl (b_ Y ?_))));have:=U4 hc hn f (k+1) MK;rw[aE9] at this;exact this
theorem l8(hc:c<256)(hn:n<=9):Rn F X 7 0 [bD c,iD n] (·=[.sl (ku c n)]):=
 Rn.of (fd:=EK) (t:=bD1) rfl rfl rfl rfl (b_ Y (U4 hc hn n 0 MK))
end
section
variable{own:Nat}{ar:Dw}
abbrev ew(ints tables flags own:Nat)(ar:Dw)(params:Nat)(bs:EH)(left:Nat):Di:=[iD ints,iD tables,iD flags,iD own,.sl (ep ar),iD params,.sl (bG bs),iD left]
theorem fy{bs:EH}(n:Nat)(hn:1<=n):Rn F X 0 0 [iD ints,iD tables,iD flags,iD own,.sl (ep ar),iD params,.sl (bG bs),iD left,iD n] (fun o=>∃k fk,o=iD k::ew ints tables flags own ar params fk left/\k<n/\fk.length<=bs.length):=
 OC (m:=⟨ints,tables,flags,own,ar,params,bs,left⟩) hn
theorem mP{bs:EH}(h1:1<=ints)(h3:ints<=3):Rn F X 1 0 (ew ints tables flags own ar params bs left) (fun o=>∃k fk,o= .str (nm 120 k)::ew ints tables flags own ar params fk left/\k<ints/\fk.length<=bs.length):=by
 refine wr Y<|wl Y (l8 (c:=120) (n:=3) MK MK) rfl<|wg 1 Y<|wx Y (fy ints h1) ?_;rintro _ ⟨k,fk,rfl,hk,hb⟩;refine⟨rfl,e_ Y (ax (nD MK) rfl) rfl ?_⟩;exact wg 1 Y<|wt Y ⟨k,fk,rfl,hk,hb⟩
def bE1(ints tables flags own:Nat)(ar:Dw)(params:Nat)(bs:EH)(left f:Nat)(o:Di):Prop:=∃e fk,o=Ex.r e++ew ints tables flags own ar params fk left/\fD ⟨ints,tables,flags,params⟩ f e/\fk.length<=bs.length
theorem Rg{k:Nat}(h:k<6):∃op,11<=op/\op<=15/\aF (.uu 1 0 1 false) [iD k,.int .i64 14,.int .i64 15,.int .i64 11,.int .i64 12,.int .i64 13,.int .i64 14]=some (iD op):=by
 have:k=0\/k=1\/k=2\/k=3\/k=4\/k=5:=MK
 rcases this with rfl|rfl|rfl|rfl|rfl|rfl
 ·exact⟨14,MK,MK,rfl⟩
 ·exact⟨15,MK,MK,rfl⟩
 ·exact⟨11,MK,MK,rfl⟩
 ·exact⟨12,MK,MK,rfl⟩
 ·exact⟨13,MK,MK,rfl⟩
 ·exact⟨14,MK,MK,rfl⟩
theorem fw(h1:1<=ints)(h3:ints<=3)(ht:tables<=1)(hp:params<=2):∀(f d:Nat),d+f=3->∀{bs:EH},Rn F X 2 0 [iD ints,iD tables,iD flags,iD own,.sl (ep ar),iD params,.sl (bG bs),iD left,iD d] (bE1 ints tables flags own ar params bs left f):=by
 intro f
 induction f with
 |zero=>
  intro d hd bs;obtain rfl:d=3:=MK
  refine wr Y<|wg 1 Y<|wx Y (fy 12 MK) fun|_,⟨k,bs,rfl,hk,hb⟩=>⟨Y,?_⟩
  refine D5<|d_ Y af ?_ ?_<;>intro h
  ·refine wg 1 Y<|wx Y (fy 9 MK) fun|_,⟨k,bs,rfl,hk,hb⟩=>⟨Y,?_⟩
   exact jq<|wt Y ⟨.mk 1 [] k [],bs,rfl,.num k MK,MK⟩
  ·refine wg 1 Y<|d_ Y bZ ?_ ?_<;>intro h
   ·refine wg 1 Y<|wx Y (fy 9 MK) fun|_,⟨k,bs,rfl,hk,hb⟩=>⟨Y,?_⟩
    exact jq<|wt Y ⟨.mk 1 [] k [],bs,rfl,.num k MK,MK⟩
   ·refine d_ Y af ?_ ?_<;>intro h
    ·refine wg 1 Y<|wx Y (mP MK MK) fun|_,⟨k,bs,rfl,hk,hb⟩=>⟨Y,?_⟩
     exact jq<|wt Y ⟨.mk 5 (nm 120 k) 0 [],bs,rfl,.var k MK,MK⟩
    ·refine d_ Y ay ?_ ?_<;>intro h
     ·refine d_ Y ay ?_ ?_<;>intro h
      ·refine wg 1 Y<|wx Y (mP MK MK) fun|_,⟨k,bs,rfl,hk,hb⟩=>⟨Y,?_⟩
       exact jq<|wt Y ⟨.mk 5 (nm 120 k) 0 [],bs,rfl,.var k MK,MK⟩
      ·refine wy Y ay<|wl Y (l8 (c:=112) (n:=2) MK MK) rfl<|wg 1 Y<|wx Y (fy params MK) fun|_,⟨k,bs,rfl,hk,hb⟩=>⟨Y,?_⟩
       exact oa<|wo Y (ax (nD MK) rfl)<|wg 1 Y<|wt Y ⟨.mk 5 (nm 112 k) 0 [],bs,rfl,.lW k MK,MK⟩
     ·exact wn Y ay<|wy Y ay<|wt Y ⟨.mk 4 [] 0 [],bs,rfl,.now,MK⟩
 |succ f ih=>
  intro d hd bs;refine wr Y<|wg 1 Y<|wx Y (fy 12 MK) fun|_,⟨k,bs,rfl,hk,hb⟩=>⟨Y,?_⟩
  refine D5<|d_ Y af ?_ ?_<;>intro h
  ·refine wg 1 Y<|wx Y (fy 9 MK) fun|_,⟨k,bs,rfl,hk,hb⟩=>⟨Y,?_⟩
   exact jq<|wt Y ⟨.mk 1 [] k [],bs,rfl,.num k MK,MK⟩
  ·refine wn Y bZ<|d_ Y af ?_ ?_<;>intro h
   ·refine wg 1 Y<|wx Y (mP MK MK) fun|_,⟨k,bs,rfl,hk,hb⟩=>⟨Y,?_⟩
    exact jq<|wt Y ⟨.mk 5 (nm 120 k) 0 [],bs,rfl,.var k MK,MK⟩
   ·refine d_ Y ay ?_ ?_<;>intro h
    ·refine d_ Y ay ?_ ?_<;>intro h
     ·refine wg 1 Y<|wx Y (mP MK MK) fun|_,⟨k,bs,rfl,hk,hb⟩=>⟨Y,?_⟩
      exact jq<|wt Y ⟨.mk 5 (nm 120 k) 0 [],bs,rfl,.var k MK,MK⟩
     ·refine wy Y ay<|wl Y (l8 (c:=112) (n:=2) MK MK) rfl<|wg 1 Y<|wx Y (fy params MK) fun|_,⟨k,bs,rfl,hk,hb⟩=>⟨Y,?_⟩
      exact oa<|wo Y (ax (nD MK) rfl)<|wg 1 Y<|wt Y ⟨.mk 5 (nm 112 k) 0 [],bs,rfl,.lW k MK,MK⟩
    ·refine wn Y ay<|d_ Y ay ?_ ?_<;>intro h
     ·exact wt Y ⟨.mk 4 [] 0 [],bs,rfl,.now,MK⟩
     ·refine d_ Y ay ?_ ?_<;>intro h
      ·refine d_ Y bZ ?_ ?_<;>intro h
       ·refine wo Y oI<|wg 1 Y<|wx Y (ih (d+1) MK) fun|_,⟨⟨o1,n1,i1,a1⟩,bs,rfl,ba,bX⟩=>⟨Y,?_⟩
        exact nP<|wg 1 Y<|wt Y ⟨.mk 6 (nm 116 0) 0 [⟨o1,n1,i1,a1⟩],bs,rfl,.get (by show 0<tables;omega) ba,MK⟩
       ·refine wn Y ay<|wn Y ay<|wg 1 Y<|wx Y (fy 6 MK) fun|_,⟨k,bs,rfl,hk,hb⟩=>⟨Y,?_⟩
        refine jq<|wy Y qj ?_
        (obtain⟨op,sU,jg,ho⟩:=Rg hk;refine e_ Y ho rfl ?_)
        refine wo Y oI<|wg 1 Y<|wx Y (ih (d+1) MK) fun|_,⟨⟨o1,n1,i1,a1⟩,bs,rfl,ba,bX⟩=>⟨Y,?_⟩
        dsimp only [ew,Ex.r,St.r,c_,n_];refine wo Y oI<|wg 1 Y ?_
        (have _:=ba;refine wx Y (ih (d+1) MK) ?_;rintro _ ⟨⟨o2,n2,i2,a2⟩,bs,rfl,gZ,bP⟩;refine⟨rfl,?_⟩)
        exact LD<|wg 1 Y<|wt Y ⟨.mk op [] 0 [⟨o1,n1,i1,a1⟩,⟨o2,n2,i2,a2⟩],bs,rfl,.bin op sU jg ba gZ,MK⟩
      ·refine d_ Y ay ?_ ?_<;>intro h
       ·refine d_ Y bZ ?_ ?_<;>intro h
        ·exact wt Y ⟨.mk 8 (nm 116 0) 0 [],bs,rfl,.size (by show 0<tables;omega),MK⟩
        ·refine wn Y ay<|wg 1 Y<|wx Y (fy 6 MK) fun|_,⟨k,bs,rfl,hk,hb⟩=>⟨Y,?_⟩
         refine jq<|wy Y qj ?_
         (obtain⟨op,sU,jg,ho⟩:=Rg hk;refine e_ Y ho rfl ?_)
         refine wo Y oI<|wg 1 Y<|wx Y (ih (d+1) MK) fun|_,⟨⟨o1,n1,i1,a1⟩,bs,rfl,ba,bX⟩=>⟨Y,?_⟩
         dsimp only [ew,Ex.r,St.r,c_,n_];refine wo Y oI<|wg 1 Y ?_
         (have _:=ba;refine wx Y (ih (d+1) MK) ?_;rintro _ ⟨⟨o2,n2,i2,a2⟩,bs,rfl,gZ,bP⟩;refine⟨rfl,?_⟩)
         exact LD<|wg 1 Y<|wt Y ⟨.mk op [] 0 [⟨o1,n1,i1,a1⟩,⟨o2,n2,i2,a2⟩],bs,rfl,.bin op sU jg ba gZ,MK⟩
       ·refine d_ Y ay ?_ ?_<;>intro h
        ·refine wo Y oI<|wg 1 Y<|wx Y (ih (d+1) MK) fun|_,⟨⟨o1,n1,i1,a1⟩,bs,rfl,ba,bX⟩=>⟨Y,?_⟩
         exact nP<|wg 1 Y<|wt Y ⟨.mk 9 [] 0 [⟨o1,n1,i1,a1⟩],bs,rfl,.neg ba,MK⟩
        ·refine wg 1 Y<|wx Y (fy 6 MK) fun|_,⟨k,bs,rfl,hk,hb⟩=>⟨Y,?_⟩
         refine jq<|wy Y qj ?_
         (obtain⟨op,sU,jg,ho⟩:=Rg hk;refine e_ Y ho rfl ?_)
         refine wo Y oI<|wg 1 Y<|wx Y (ih (d+1) MK) fun|_,⟨⟨o1,n1,i1,a1⟩,bs,rfl,ba,bX⟩=>⟨Y,?_⟩
         dsimp only [ew,Ex.r,St.r,c_,n_];refine wo Y oI<|wg 1 Y ?_
         (have _:=ba;refine wx Y (ih (d+1) MK) ?_;rintro _ ⟨⟨o2,n2,i2,a2⟩,bs,rfl,gZ,bP⟩;refine⟨rfl,?_⟩)
         exact LD<|wg 1 Y<|wt Y ⟨.mk op [] 0 [⟨o1,n1,i1,a1⟩,⟨o2,n2,i2,a2⟩],bs,rfl,.bin op sU jg ba gZ,MK⟩
end
section
variable{own:Nat}{ar:Dw}
theorem qV:∀(l:List Fl.Ex),(Ex.rs l).length=l.length
 |[]=>rfl
 |e::l=>by show(Ex.rs l).length+1=_;rw[qV l];rfl
theorem W0:∀(l:List Fl.Ex) (e:Fl.Ex),Ex.rs l++[Ex.r e]=Ex.rs (l++[e])
 |[],e=>rfl
 |a::l,e=>by show Ex.r a::(Ex.rs l++[Ex.r e])=_;rw[W0 l e];rfl
def aa2(ints tables flags own:Nat)(ar:Dw)(params:Nat)(bs:EH)(left n:Nat)(o:Di):Prop:=∃es fk,o= .sl (Ex.rs es)::ew ints tables flags own ar params fk left/\(∀e∈es,fD ⟨ints,tables,flags,params⟩ 3 e)/\es.length=n/\fk.length<=bs.length
theorem ao2(h1:1<=ints)(h3:ints<=3)(ht:tables<=1)(hp:params<=2)(hn:n<=9):∀(f:Nat) (es:List Fl.Ex) (bs:EH),es.length+f=n->(∀e∈es,fD ⟨ints,tables,flags,params⟩ 3 e)->Rn F X 3 1 (iD n:: .sl (Ex.rs es)::iD es.length::ew ints tables flags own ar params bs left) (aa2 ints tables flags own ar params bs left n):=by
 intro f
 induction f with
 |zero=>
  intro es bs hf he;exact wr Y<|wn Y af<|wt Y ⟨es,bs,rfl,he,MK,MK⟩
 |succ f ih=>
  intro es bs hf he;refine wr Y<|wy Y af<|wg 1 Y<|wx Y (fw h1 h3 ht hp 2 1 MK) fun|_,⟨⟨o1,n1,i1,a1⟩,bs,rfl,ba,bX⟩=>⟨Y,?_⟩
  refine pP<|wg 2 Y<|wo Y (gb rfl rfl (by rw[qV];omega) (by rw[qV];omega))<|wo Y oI<|b_ Y ?_;have:=ih (es++[⟨o1,n1,i1,a1⟩]) bs Of (fun e h=>by
   rcases xF.1 h with h|h
   ·exact he e h
   ·rw[xy] at h;subst h;exact ba.mono MK)
  rw[<-W0,xa] at this;exact this.mono fun o ⟨ae,fk,h1,h2,h3,h4⟩=>⟨ae,fk,h1,h2,h3,MK⟩
theorem zB(h1:1<=ints)(h3:ints<=3)(ht:tables<=1)(hp:params<=2)(hn:n<=9){bs:EH}:Rn F X 3 0 [iD ints,iD tables,iD flags,iD own,.sl (ep ar),iD params,.sl (bG bs),iD left,iD n] (aa2 ints tables flags own ar params bs left n):=by
 refine wr Y<|b_ Y ?_;exact ao2 h1 h3 ht hp hn n [] bs NS NS
def bE0(ints tables flags own:Nat)(ar:Dw)(params:Nat)(bs:EH)(left f:Nat)(o:Di):Prop:=∃e fk,o=Ex.r e++ew ints tables flags own ar params fk left/\jS ⟨ints,tables,flags,params⟩ f e/\fk.length<=bs.length
theorem Fh(h1:1<=ints)(h3:ints<=3)(ht:tables<=1)(bK:flags<=2)(hp:params<=2):∀(f d:Nat),d+f=2->∀{bs:EH},Rn F X 4 0 [iD ints,iD tables,iD flags,iD own,.sl (ep ar),iD params,.sl (bG bs),iD left,iD d] (bE0 ints tables flags own ar params bs left (f+3)):=by
 intro f
 induction f with
 |zero=>
  intro d hd bs;obtain rfl:d=2:=MK
  refine wr Y<|wg 1 Y<|wx Y (fy 10 MK) fun|_,⟨k,bs,rfl,hk,hb⟩=>⟨Y,?_⟩
  refine D5<|d_ Y ay ?_ ?_<;>intro h
  ·refine wg 1 Y<|wx Y (fy 2 MK) fun|_,⟨k,bs,rfl,hk,hb⟩=>⟨Y,?_⟩
   exact jq<|wo Y oI<|wt Y ⟨.mk (2+k) [] 0 [],bs,rfl,.lit _ MK MK,MK⟩
  ·refine d_ Y ay ?_ ?_<;>intro h
   ·exact wt Y ⟨.mk 5 (nm 98 0) 0 [],bs,rfl,.b0,MK⟩
   ·refine wg 1 Y<|d_ Y bZ ?_ ?_<;>intro h
    ·exact wt Y ⟨.mk 5 (nm 98 0) 0 [],bs,rfl,.b0,MK⟩
    ·refine d_ Y ay ?_ ?_<;>intro h
     ·refine d_ Y bZ ?_ ?_<;>intro h
      ·refine wl Y (l8 (c:=102) (n:=2) MK MK) rfl<|wg 1 Y<|wx Y (fy flags MK) fun|_,⟨k,bs,rfl,hk,hb⟩=>⟨Y,?_⟩
       exact oa<|wo Y (ax (nD MK) rfl)<|wg 1 Y<|wt Y ⟨.mk 5 (nm 102 k) 0 [],bs,rfl,.flag k MK,MK⟩
      ·refine wn Y ay<|wn Y ay<|wn Y ay<|wn Y ay<|wg 1 Y<|wx Y (fy 6 MK) fun|_,⟨k,bs,rfl,hk,hb⟩=>⟨Y,?_⟩
       refine jq<|wo Y oI<|wg 1 Y<|wx Y (fw h1 h3 ht hp 2 1 MK) fun|_,⟨⟨o1,n1,i1,a1⟩,bs,rfl,ba,bX⟩=>⟨Y,?_⟩
       refine mv<|wg 1 Y ?_
       (have _:=ba;refine wx Y (fw h1 h3 ht hp 2 1 MK) ?_;rintro _ ⟨⟨o2,n2,i2,a2⟩,bs,rfl,gZ,bP⟩;refine⟨rfl,?_⟩)
       exact uk<|wg 1 Y<|wt Y ⟨.mk (16+k) [] 0 [⟨o1,n1,i1,a1⟩,⟨o2,n2,i2,a2⟩],bs,rfl,.cmp _ MK MK ba gZ,MK⟩
     ·refine d_ Y ay ?_ ?_<;>intro h
      ·refine d_ Y bZ ?_ ?_<;>intro h
       ·refine wg 1 Y<|wx Y (fw h1 h3 ht hp 2 1 MK) fun|_,⟨⟨o1,n1,i1,a1⟩,bs,rfl,ba,bX⟩=>⟨Y,?_⟩
        exact pc<|wg 1 Y<|wt Y ⟨.mk 7 (nm 116 0) 0 [⟨o1,n1,i1,a1⟩],bs,rfl,.has (by show 0<tables;omega) ba,MK⟩
       ·refine wn Y ay<|wn Y ay<|wn Y ay<|wg 1 Y<|wx Y (fy 6 MK) fun|_,⟨k,bs,rfl,hk,hb⟩=>⟨Y,?_⟩
        refine jq<|wo Y oI<|wg 1 Y<|wx Y (fw h1 h3 ht hp 2 1 MK) fun|_,⟨⟨o1,n1,i1,a1⟩,bs,rfl,ba,bX⟩=>⟨Y,?_⟩
        refine mv<|wg 1 Y ?_
        (have _:=ba;refine wx Y (fw h1 h3 ht hp 2 1 MK) ?_;rintro _ ⟨⟨o2,n2,i2,a2⟩,bs,rfl,gZ,bP⟩;refine⟨rfl,?_⟩)
        exact uk<|wg 1 Y<|wt Y ⟨.mk (16+k) [] 0 [⟨o1,n1,i1,a1⟩,⟨o2,n2,i2,a2⟩],bs,rfl,.cmp _ MK MK ba gZ,MK⟩
      ·refine wn Y ay<|wn Y ay<|wn Y ay<|wg 1 Y<|wx Y (fy 6 MK) fun|_,⟨k,bs,rfl,hk,hb⟩=>⟨Y,?_⟩
       refine jq<|wo Y oI<|wg 1 Y<|wx Y (fw h1 h3 ht hp 2 1 MK) fun|_,⟨⟨o1,n1,i1,a1⟩,bs,rfl,ba,bX⟩=>⟨Y,?_⟩
       refine mv<|wg 1 Y ?_
       (have _:=ba;refine wx Y (fw h1 h3 ht hp 2 1 MK) ?_;rintro _ ⟨⟨o2,n2,i2,a2⟩,bs,rfl,gZ,bP⟩;refine⟨rfl,?_⟩)
       exact uk<|wg 1 Y<|wt Y ⟨.mk (16+k) [] 0 [⟨o1,n1,i1,a1⟩,⟨o2,n2,i2,a2⟩],bs,rfl,.cmp _ MK MK ba gZ,MK⟩
 |succ f ih=>
  intro d hd bs;refine wr Y<|wg 1 Y<|wx Y (fy 10 MK) fun|_,⟨k,bs,rfl,hk,hb⟩=>⟨Y,?_⟩
  refine D5<|d_ Y ay ?_ ?_<;>intro h
  ·refine wg 1 Y<|wx Y (fy 2 MK) fun|_,⟨k,bs,rfl,hk,hb⟩=>⟨Y,?_⟩
   exact jq<|wo Y oI<|wt Y ⟨.mk (2+k) [] 0 [],bs,rfl,.lit _ MK MK,MK⟩
  ·refine d_ Y ay ?_ ?_<;>intro h
   ·exact wt Y ⟨.mk 5 (nm 98 0) 0 [],bs,rfl,.b0,MK⟩
   ·refine wn Y bZ<|d_ Y ay ?_ ?_<;>intro h
    ·refine d_ Y bZ ?_ ?_<;>intro h
     ·refine wl Y (l8 (c:=102) (n:=2) MK MK) rfl<|wg 1 Y<|wx Y (fy flags MK) fun|_,⟨k,bs,rfl,hk,hb⟩=>⟨Y,?_⟩
      exact oa<|wo Y (ax (nD MK) rfl)<|wg 1 Y<|wt Y ⟨.mk 5 (nm 102 k) 0 [],bs,rfl,.flag k MK,MK⟩
     ·refine wn Y ay<|wn Y ay<|wn Y ay<|wn Y ay<|wg 1 Y<|wx Y (fy 6 MK) fun|_,⟨k,bs,rfl,hk,hb⟩=>⟨Y,?_⟩
      refine jq<|wo Y oI<|wg 1 Y<|wx Y (fw h1 h3 ht hp 2 1 MK) fun|_,⟨⟨o1,n1,i1,a1⟩,bs,rfl,ba,bX⟩=>⟨Y,?_⟩
      refine mv<|wg 1 Y ?_
      (have _:=ba;refine wx Y (fw h1 h3 ht hp 2 1 MK) ?_;rintro _ ⟨⟨o2,n2,i2,a2⟩,bs,rfl,gZ,bP⟩;refine⟨rfl,?_⟩)
      exact uk<|wg 1 Y<|wt Y ⟨.mk (16+k) [] 0 [⟨o1,n1,i1,a1⟩,⟨o2,n2,i2,a2⟩],bs,rfl,.cmp _ MK MK (ba.mono MK) (gZ.mono MK),MK⟩
    ·refine d_ Y ay ?_ ?_<;>intro h
     ·refine d_ Y bZ ?_ ?_<;>intro h
      ·refine wg 1 Y<|wx Y (fw h1 h3 ht hp 2 1 MK) fun|_,⟨⟨o1,n1,i1,a1⟩,bs,rfl,ba,bX⟩=>⟨Y,?_⟩
       exact pc<|wg 1 Y<|wt Y ⟨.mk 7 (nm 116 0) 0 [⟨o1,n1,i1,a1⟩],bs,rfl,.has (by show 0<tables;omega) (ba.mono MK),MK⟩
      ·refine wn Y ay<|wn Y ay<|wn Y ay<|wg 1 Y<|wx Y (fy 6 MK) fun|_,⟨k,bs,rfl,hk,hb⟩=>⟨Y,?_⟩
       refine jq<|wo Y oI<|wg 1 Y<|wx Y (fw h1 h3 ht hp 2 1 MK) fun|_,⟨⟨o1,n1,i1,a1⟩,bs,rfl,ba,bX⟩=>⟨Y,?_⟩
       refine mv<|wg 1 Y ?_
       (have _:=ba;refine wx Y (fw h1 h3 ht hp 2 1 MK) ?_;rintro _ ⟨⟨o2,n2,i2,a2⟩,bs,rfl,gZ,bP⟩;refine⟨rfl,?_⟩)
       exact uk<|wg 1 Y<|wt Y ⟨.mk (16+k) [] 0 [⟨o1,n1,i1,a1⟩,⟨o2,n2,i2,a2⟩],bs,rfl,.cmp _ MK MK (ba.mono MK) (gZ.mono MK),MK⟩
     ·refine d_ Y ay ?_ ?_<;>intro h
      ·refine wo Y oI<|wg 1 Y<|wx Y (ih (d+1) MK) fun|_,⟨⟨o1,n1,i1,a1⟩,bs,rfl,ba,bX⟩=>⟨Y,?_⟩
       exact nP<|wg 1 Y<|wt Y ⟨.mk 10 [] 0 [⟨o1,n1,i1,a1⟩],bs,rfl,.not ba,MK⟩
      ·refine d_ Y ay ?_ ?_<;>intro h
       ·refine wo Y oI<|wg 1 Y<|wx Y (ih (d+1) MK) fun|_,⟨⟨o1,n1,i1,a1⟩,bs,rfl,ba,bX⟩=>⟨Y,?_⟩
        refine nP<|wo Y oI<|wo Y oI<|wg 1 Y ?_
        (have _:=ba;refine wx Y (ih (d+1) MK) ?_;rintro _ ⟨⟨o2,n2,i2,a2⟩,bs,rfl,gZ,bP⟩;refine⟨rfl,?_⟩)
        dsimp only [ew,Ex.r,St.r,c_,n_];exact wg 1 Y<|wt Y ⟨.mk (16+k) [] 0 [⟨o1,n1,i1,a1⟩,⟨o2,n2,i2,a2⟩],bs,rfl,.B1 _ MK MK ba gZ,MK⟩
       ·refine d_ Y ay ?_ ?_<;>intro h
        ·refine wo Y oI<|wg 1 Y<|wx Y (ih (d+1) MK) fun|_,⟨⟨o1,n1,i1,a1⟩,bs,rfl,ba,bX⟩=>⟨Y,?_⟩
         refine nP<|wo Y oI<|wo Y oI<|wg 1 Y ?_
         (have _:=ba;refine wx Y (ih (d+1) MK) ?_;rintro _ ⟨⟨o2,n2,i2,a2⟩,bs,rfl,gZ,bP⟩;refine⟨rfl,?_⟩)
         dsimp only [ew,Ex.r,St.r,c_,n_];exact wg 1 Y<|wt Y ⟨.mk (16+k) [] 0 [⟨o1,n1,i1,a1⟩,⟨o2,n2,i2,a2⟩],bs,rfl,.B1 _ MK MK ba gZ,MK⟩
        ·refine wg 1 Y<|wx Y (fy 6 MK) fun|_,⟨k,bs,rfl,hk,hb⟩=>⟨Y,?_⟩
         refine jq<|wo Y oI<|wg 1 Y<|wx Y (fw h1 h3 ht hp 2 1 MK) fun|_,⟨⟨o1,n1,i1,a1⟩,bs,rfl,ba,bX⟩=>⟨Y,?_⟩
         refine mv<|wg 1 Y ?_
         (have _:=ba;refine wx Y (fw h1 h3 ht hp 2 1 MK) ?_;rintro _ ⟨⟨o2,n2,i2,a2⟩,bs,rfl,gZ,bP⟩;refine⟨rfl,?_⟩)
         exact uk<|wg 1 Y<|wt Y ⟨.mk (16+k) [] 0 [⟨o1,n1,i1,a1⟩,⟨o2,n2,i2,a2⟩],bs,rfl,.cmp _ MK MK (ba.mono MK) (gZ.mono MK),MK⟩
end
end Go.Proofs.YthicpeihkkokmaaGreatDoor
namespace Go.Fl
mutual
def St.n:St->Nat| .mk _ _ _ _ th el=>1+St.ns th+St.ns el
def St.ns:JH->Nat|[]=>0|s::l=>St.n s+St.ns l
end
def St.sub:St->Nat| .mk _ _ _ _ th el=>St.ns th+St.ns el
end Go.Fl
namespace Go.Proofs.YthicpeihkkokmaaGreatDoor
open Go.Ex Go.RowKit Go.Fl
variable{k:Nat}
section
section
variable{X:Bv}{ints tables flags own params:Nat}{ar:Dw}
theorem nC:∀(l:JH),(St.rs l).length=l.length
 |[]=>rfl
 |e::l=>by show(St.rs l).length+1=_;rw[nC l];rfl
theorem NM:∀(l:JH) (e:St),St.rs l++[St.r e]=St.rs (l++[e])
 |[],e=>rfl
 |a::l,e=>by show St.r a::(St.rs l++[St.r e])=_;rw[NM l e];rfl
theorem OA:∀(l:JH) (e:St),St.ns (l++[e])=St.ns l+(1+St.sub e)
 |[],.mk .. =>by simp[St.ns,St.n,St.sub];omega
 |a::l,e=>by simp[St.ns,OA l e];omega
theorem mS:∀(l:JH),l.length<=St.ns l
 |[]=>xk _
 | .mk .. ::l=>by have:=mS l;simp[St.ns,St.n];omega
theorem W1(l:List Fl.Ex):∀row∈Ex.rs l,row.length=4/\row.all D.cell=true:=by
 induction l with
 |nil=>intro row h;cases h
 |cons e l ih=>
  obtain⟨op,nm,n,a⟩:=e;intro row h;rcases xG.1 h with rfl|h
  ·exact⟨rfl,rfl⟩
  ·exact ih row h
def li(l:Es):Ca:=l.map fun n=>[iD n]
theorem zZ(ar:Dw):(ep ar).length=ar.length:=xm _
theorem AJ(h:k<(ep ar).length)(cP:∀l∈ar,1<=l.length/\l.length<=3/\∀n∈l,n<=2):∃l,ar[k]? =some l/\(ep ar)[k]? =some [.sl (li l)]/\1<=(li l).length/\(li l).length<=3/\∀n∈l,n<=2:=by
 have hk:k<ar.length:=by rw[<-zZ];exact h
 have he:ar[k]? =some ar[k]:=xc hk;refine⟨ar[k],he,?_,?_⟩
 ·show(ar.map _)[k]? =_;rw[xx,he];rfl
 ·have:=cP ar[k] (List.getElem_mem hk);rw[show(li ar[k]).length=ar[k].length from xm _];exact this
theorem Aj{l:Es}(h:k<(li l).length)(hl:∀n∈l,n<=2):∃n,l[k]? =some n/\(li l)[k]? =some [iD n]/\n<=2:=by
 have hk:k<l.length:=by rw[<-show(li l).length=l.length from xm _];exact h
 have he:l[k]? =some l[k]:=xc hk;refine⟨l[k],he,?_,hl _ (List.getElem_mem hk)⟩;show(l.map _)[k]? =_;rw[xx,he];rfl
theorem K3{α:Type}:∀{l:List α},l.length=2->∃a b,l=[a,b]
 |[a,b],_=>⟨a,b,rfl⟩
theorem GW(h:k<3):aF (.uu 1 0 1 false) [iD k,.str [97],.str [98],.str [99]]=some (.str [(97+k).toUInt8]):=by
 have:k=0\/k=1\/k=2:=MK
 rcases this with rfl|rfl|rfl<;>rfl
def bs1(ints tables flags own:Nat)(ar:Dw)(params:Nat)(bs:EH)(left f:Nat)(o:Di):Prop:=∃s fk kn,o=St.r s++ew ints tables flags own ar params fk kn/\lO ⟨⟨ints,tables,flags,params⟩,ar,own⟩ (jQ ⟨⟨ints,tables,flags,params⟩,ar,own⟩ f) s/\fk.length<=bs.length/\kn+St.sub s<=left
def QX(ints tables flags own:Nat)(ar:Dw)(params:Nat)(bs:EH)(left f:Nat)(o:Di):Prop:=∃l fk kn,o= .sl (St.rs l)::ew ints tables flags own ar params fk kn/\jQ ⟨⟨ints,tables,flags,params⟩,ar,own⟩ (f+1) l/\fk.length<=bs.length/\kn+St.ns l<=left
theorem aL6(h1:1<=ints)(h3:ints<=3)(ht:tables<=1)(bK:flags<=2)(hp:params<=2)(lK:own<(ep ar).length)(gS:(ep ar).length<=3)(cP:∀l∈ar,1<=l.length/\l.length<=3/\∀n∈l,n<=2){L:Nat}
 (ih:∀(d f:Nat),d+f=3->∀(bs:EH) (left:Nat),left<=L->Rn F X 6 0 [iD ints,iD tables,iD flags,iD own,.sl (ep ar),iD params,.sl (bG bs),iD left,iD d] (QX ints tables flags own ar params bs left f)):
 ∀(d f:Nat),d+f=3->∀(kk:Nat) (bs:EH) (left:Nat),kk<14->left<=L->Rn F X 5 0 [iD ints,iD tables,iD flags,iD own,.sl (ep ar),iD params,.sl (bG bs),iD left,iD kk,iD d] (bs1 ints tables flags own ar params bs left f):=by
 intro d f hd kk bs left gY Aw;cases f with
 |zero=>
  refine wr Y<|d_ Y ay ?_ ?_<;>intro h
  ·refine wg 1 Y<|wx Y (Fh h1 h3 ht bK hp 2 0 MK) fun|_,⟨⟨o1,n1,i1,a1⟩,bs,rfl,ba,bX⟩=>⟨Y,?_⟩
   exact jX<|wg 1 Y<|wt Y ⟨.mk 1 (nm 98 0) [] [⟨o1,n1,i1,a1⟩] [] [],bs,left,rfl,.AN ba,MK,by simp[St.sub,St.ns]⟩
  ·refine d_ Y ay ?_ ?_<;>intro h
   ·refine d_ Y bZ ?_ ?_<;>intro h
    ·refine wg 1 Y<|wx Y (fw h1 h3 ht hp 3 0 MK) fun|_,⟨⟨o1,n1,i1,a1⟩,bs,rfl,ba,bX⟩=>⟨Y,?_⟩
     refine jX<|wg 1 Y ?_
     (have _:=ba;refine wx Y (fw h1 h3 ht hp 3 0 MK) ?_;rintro _ ⟨⟨o2,n2,i2,a2⟩,bs,rfl,gZ,bP⟩;refine⟨rfl,?_⟩)
     exact LI<|wg 1 Y<|wt Y ⟨.mk 2 (nm 116 0) [] [⟨o1,n1,i1,a1⟩,⟨o2,n2,i2,a2⟩] [] [],bs,left,rfl,.put (by show 0<tables;omega) ba gZ,MK,by simp[St.sub,St.ns]⟩
    ·refine wn Y ay<|wn Y ay<|wn Y ay<|wn Y ay<|wn Y ay<|wn Y ay<|wn Y ay<|wn Y ay<|wn Y ay<|wg 1 Y<|wx Y (mP MK MK) fun|_,⟨ki,bs,rfl,iu,hb⟩=>⟨Y,?_⟩
     refine gI<|wg 1 Y<|wx Y (fw h1 h3 ht hp 3 0 MK) fun|_,⟨⟨o1,n1,i1,a1⟩,bs,rfl,ba,bX⟩=>⟨Y,?_⟩
     exact nP<|wg 1 Y<|wt Y ⟨.mk 1 (nm 120 ki) [] [⟨o1,n1,i1,a1⟩] [] [],bs,left,rfl,.mZ ki iu ba,MK,by simp[St.sub,St.ns]⟩
   ·refine d_ Y ay ?_ ?_<;>intro h
    ·refine d_ Y bZ ?_ ?_<;>intro h
     ·refine wg 1 Y<|wx Y (fw h1 h3 ht hp 3 0 MK) fun|_,⟨⟨o1,n1,i1,a1⟩,bs,rfl,ba,bX⟩=>⟨Y,?_⟩
      exact jX<|wg 1 Y<|wt Y ⟨.mk 3 (nm 116 0) [] [⟨o1,n1,i1,a1⟩] [] [],bs,left,rfl,.del (by show 0<tables;omega) ba,MK,by simp[St.sub,St.ns]⟩
     ·refine wn Y ay<|wn Y ay<|wn Y ay<|wn Y ay<|wn Y ay<|wn Y ay<|wn Y ay<|wn Y ay<|wg 1 Y<|wx Y (mP MK MK) fun|_,⟨ki,bs,rfl,iu,hb⟩=>⟨Y,?_⟩
      refine gI<|wg 1 Y<|wx Y (fw h1 h3 ht hp 3 0 MK) fun|_,⟨⟨o1,n1,i1,a1⟩,bs,rfl,ba,bX⟩=>⟨Y,?_⟩
      exact nP<|wg 1 Y<|wt Y ⟨.mk 1 (nm 120 ki) [] [⟨o1,n1,i1,a1⟩] [] [],bs,left,rfl,.mZ ki iu ba,MK,by simp[St.sub,St.ns]⟩
    ·refine d_ Y ay ?_ ?_<;>intro h
     ·refine wn Y af<|wn Y ay<|wn Y ay<|wn Y ay<|wn Y ay<|wn Y ay<|wn Y ay<|wg 1 Y<|wx Y (mP MK MK) fun|_,⟨ki,bs,rfl,iu,hb⟩=>⟨Y,?_⟩
      refine gI<|wg 1 Y<|wx Y (fw h1 h3 ht hp 3 0 MK) fun|_,⟨⟨o1,n1,i1,a1⟩,bs,rfl,ba,bX⟩=>⟨Y,?_⟩
      exact nP<|wg 1 Y<|wt Y ⟨.mk 1 (nm 120 ki) [] [⟨o1,n1,i1,a1⟩] [] [],bs,left,rfl,.mZ ki iu ba,MK,by simp[St.sub,St.ns]⟩
     ·refine d_ Y ay ?_ ?_<;>intro h
      ·refine wn Y af<|wn Y ay<|wn Y ay<|wn Y ay<|wn Y ay<|wn Y ay<|wn Y ay<|wg 1 Y<|wx Y (mP MK MK) fun|_,⟨ki,bs,rfl,iu,hb⟩=>⟨Y,?_⟩
       refine gI<|wg 1 Y<|wx Y (fw h1 h3 ht hp 3 0 MK) fun|_,⟨⟨o1,n1,i1,a1⟩,bs,rfl,ba,bX⟩=>⟨Y,?_⟩
       exact nP<|wg 1 Y<|wt Y ⟨.mk 1 (nm 120 ki) [] [⟨o1,n1,i1,a1⟩] [] [],bs,left,rfl,.mZ ki iu ba,MK,by simp[St.sub,St.ns]⟩
      ·refine d_ Y ay ?_ ?_<;>intro h
       ·refine wn Y af<|wn Y ay<|wn Y ay<|wn Y ay<|wn Y ay<|wn Y ay<|wg 1 Y<|wx Y (mP MK MK) fun|_,⟨ki,bs,rfl,iu,hb⟩=>⟨Y,?_⟩
        refine gI<|wg 1 Y<|wx Y (fw h1 h3 ht hp 3 0 MK) fun|_,⟨⟨o1,n1,i1,a1⟩,bs,rfl,ba,bX⟩=>⟨Y,?_⟩
        exact nP<|wg 1 Y<|wt Y ⟨.mk 1 (nm 120 ki) [] [⟨o1,n1,i1,a1⟩] [] [],bs,left,rfl,.mZ ki iu ba,MK,by simp[St.sub,St.ns]⟩
       ·refine d_ Y ay ?_ ?_<;>intro h
        ·refine wo Y bc<|wg 1 Y<|wx Y (fy (ep ar).length MK) fun|_,⟨to,bs,rfl,sS,hb⟩=>⟨Y,?_⟩
         refine lR ?_
         (obtain⟨l,hl,l5,fM,dK,aL⟩:=AJ sS cP;refine e_ Y (ax l5 rfl) rfl ?_)
         refine wg 1 Y<|wo Y bc<|wg 1 Y<|wx Y (fy (li l).length MK) fun|_,⟨hh,bs,rfl,sY,hb⟩=>⟨Y,?_⟩
         refine iW<|Wp.dt Y (qj (n:=3)) (xK sS gS)<|wo Y (GW MK)<|wo Y (ax (by assumption) rfl)<|wg 1 Y ?_
         (obtain⟨n,hn,ly,fj⟩:=Aj sY aL;refine e_ Y (ax ly rfl) rfl ?_)
         refine wg 1 Y<|wl Y (l8 (c:=104) (n:=3) MK MK) rfl<|wo Y (ax (nD MK) rfl)<|wg 2 Y<|wx Y (zB h1 h3 ht hp (n:=n) MK) fun|_,⟨es,bs,rfl,dU,fI,bP⟩=>⟨Y,?_⟩
         exact LF<|wt Y ⟨.mk 6 [(97+to).toUInt8] (nm 104 hh) es [] [],bs,left,rfl,.send to hh n hl hn dU fI,MK,by simp[St.sub,St.ns]⟩
        ·refine d_ Y ay ?_ ?_<;>intro h
         ·refine wo Y bc<|wg 1 Y<|wx Y (fy (ep ar).length MK) fun|_,⟨to,bs,rfl,sS,hb⟩=>⟨Y,?_⟩
          refine lR ?_
          (obtain⟨l,hl,l5,fM,dK,aL⟩:=AJ sS cP;refine e_ Y (ax l5 rfl) rfl ?_)
          refine wg 1 Y<|wo Y bc<|wg 1 Y<|wx Y (fy (li l).length MK) fun|_,⟨hh,bs,rfl,sY,hb⟩=>⟨Y,?_⟩
          refine iW<|Wp.dt Y (qj (n:=3)) (xK sS gS)<|wo Y (GW MK)<|wo Y (ax (by assumption) rfl)<|wg 1 Y ?_
          (obtain⟨n,hn,ly,fj⟩:=Aj sY aL;refine e_ Y (ax ly rfl) rfl ?_)
          refine wg 1 Y<|wl Y (l8 (c:=104) (n:=3) MK MK) rfl<|wo Y (ax (nD MK) rfl)<|wg 2 Y<|wx Y (zB h1 h3 ht hp (n:=n) MK) fun|_,⟨es,bs,rfl,dU,fI,bP⟩=>⟨Y,?_⟩
          exact LF<|wt Y ⟨.mk 6 [(97+to).toUInt8] (nm 104 hh) es [] [],bs,left,rfl,.send to hh n hl hn dU fI,MK,by simp[St.sub,St.ns]⟩
         ·refine d_ Y ay ?_ ?_<;>intro h
          ·(obtain⟨l,hl,l5,fM,dK,aL⟩:=AJ lK cP;refine e_ Y (ax l5 rfl) rfl ?_)
           refine wg 1 Y<|wo Y bc<|wg 1 Y<|wx Y (fy (li l).length MK) fun|_,⟨hh,bs,rfl,sY,hb⟩=>⟨Y,?_⟩
           refine jX<|wg 1 Y<|wx Y (fw h1 h3 ht hp 2 1 MK) fun|_,⟨⟨o1,n1,i1,a1⟩,bs,rfl,ba,bX⟩=>⟨Y,?_⟩
           refine LI<|wo Y (ax (by assumption) rfl)<|wg 1 Y ?_
           (obtain⟨n,hn,ly,fj⟩:=Aj sY aL;refine e_ Y (ax ly rfl) rfl ?_)
           refine wg 1 Y<|wl Y (l8 (c:=104) (n:=3) MK MK) rfl<|wo Y (ax (nD MK) rfl)<|wg 2 Y<|wx Y (zB h1 h3 ht hp (n:=n) MK) fun|_,⟨es,bs,rfl,dU,fI,bP⟩=>⟨Y,?_⟩
           dsimp only [ew,Ex.r,St.r,c_,n_];exact wg 1 Y<|wo Y (yg (W1 _) (by rw[qV,fI];show 1+n<=_;omega) (by rw[qV,fI];show(1+n)*56<=_;omega))<|wt Y ⟨.mk 7 [] (nm 104 hh) (⟨o1,n1,i1,a1⟩::es) [] [],bs,left,rfl,.Bi hh n hl hn (fun e h=>by rcases xG.1 h with rfl|h;exact ba.mono MK;exact dU e h) (by rw[xi,fI]),MK,by simp[St.sub,St.ns]⟩
          ·refine d_ Y ay ?_ ?_<;>intro h
           ·refine wn Y af<|wn Y ay<|wg 1 Y<|wx Y (mP MK MK) fun|_,⟨ki,bs,rfl,iu,hb⟩=>⟨Y,?_⟩
            refine gI<|wg 1 Y<|wx Y (fw h1 h3 ht hp 3 0 MK) fun|_,⟨⟨o1,n1,i1,a1⟩,bs,rfl,ba,bX⟩=>⟨Y,?_⟩
            exact nP<|wg 1 Y<|wt Y ⟨.mk 1 (nm 120 ki) [] [⟨o1,n1,i1,a1⟩] [] [],bs,left,rfl,.mZ ki iu ba,MK,by simp[St.sub,St.ns]⟩
           ·refine d_ Y ay ?_ ?_<;>intro h
            ·refine wg 1 Y<|wx Y (fy 3 MK) fun|_,⟨k,bs,rfl,hk,hb⟩=>⟨Y,?_⟩
             refine gI<|d_ Y ay ?_ ?_<;>intro h
             ·exact wt Y ⟨.mk 10 [] [] [] [] [],bs,left,rfl,.stop,MK,by simp[St.sub,St.ns]⟩
             ·refine wg 1 Y<|wx Y (mP MK MK) fun|_,⟨ki,bs,rfl,iu,hb⟩=>⟨Y,?_⟩
              refine oa<|wg 1 Y<|wx Y (fw h1 h3 ht hp 3 0 MK) fun|_,⟨⟨o1,n1,i1,a1⟩,bs,rfl,ba,bX⟩=>⟨Y,?_⟩
              exact mv<|wg 1 Y<|wt Y ⟨.mk 1 (nm 120 ki) [] [⟨o1,n1,i1,a1⟩] [] [],bs,left,rfl,.mZ ki iu ba,MK,by simp[St.sub,St.ns]⟩
            ·refine wg 1 Y<|wx Y (mP MK MK) fun|_,⟨ki,bs,rfl,iu,hb⟩=>⟨Y,?_⟩
             refine gI<|wg 1 Y<|wx Y (fw h1 h3 ht hp 3 0 MK) fun|_,⟨⟨o1,n1,i1,a1⟩,bs,rfl,ba,bX⟩=>⟨Y,?_⟩
             exact nP<|wg 1 Y<|wt Y ⟨.mk 1 (nm 120 ki) [] [⟨o1,n1,i1,a1⟩] [] [],bs,left,rfl,.mZ ki iu ba,MK,by simp[St.sub,St.ns]⟩
 |succ f=>
  refine wr Y<|d_ Y ay ?_ ?_<;>intro h
  ·refine wg 1 Y<|wx Y (Fh h1 h3 ht bK hp 2 0 MK) fun|_,⟨⟨o1,n1,i1,a1⟩,bs,rfl,ba,bX⟩=>⟨Y,?_⟩
   exact jX<|wg 1 Y<|wt Y ⟨.mk 1 (nm 98 0) [] [⟨o1,n1,i1,a1⟩] [] [],bs,left,rfl,.AN ba,MK,by simp[St.sub,St.ns]⟩
  ·refine d_ Y ay ?_ ?_<;>intro h
   ·refine d_ Y bZ ?_ ?_<;>intro h
    ·refine wg 1 Y<|wx Y (fw h1 h3 ht hp 3 0 MK) fun|_,⟨⟨o1,n1,i1,a1⟩,bs,rfl,ba,bX⟩=>⟨Y,?_⟩
     refine jX<|wg 1 Y ?_
     (have _:=ba;refine wx Y (fw h1 h3 ht hp 3 0 MK) ?_;rintro _ ⟨⟨o2,n2,i2,a2⟩,bs,rfl,gZ,bP⟩;refine⟨rfl,?_⟩)
     exact LI<|wg 1 Y<|wt Y ⟨.mk 2 (nm 116 0) [] [⟨o1,n1,i1,a1⟩,⟨o2,n2,i2,a2⟩] [] [],bs,left,rfl,.put (by show 0<tables;omega) ba gZ,MK,by simp[St.sub,St.ns]⟩
    ·refine wn Y ay<|wn Y ay<|wn Y ay<|wn Y ay<|wn Y ay<|wn Y ay<|wn Y ay<|wn Y ay<|wn Y ay<|wg 1 Y<|wx Y (mP MK MK) fun|_,⟨ki,bs,rfl,iu,hb⟩=>⟨Y,?_⟩
     refine gI<|wg 1 Y<|wx Y (fw h1 h3 ht hp 3 0 MK) fun|_,⟨⟨o1,n1,i1,a1⟩,bs,rfl,ba,bX⟩=>⟨Y,?_⟩
     exact nP<|wg 1 Y<|wt Y ⟨.mk 1 (nm 120 ki) [] [⟨o1,n1,i1,a1⟩] [] [],bs,left,rfl,.mZ ki iu ba,MK,by simp[St.sub,St.ns]⟩
   ·refine d_ Y ay ?_ ?_<;>intro h
    ·refine d_ Y bZ ?_ ?_<;>intro h
     ·refine wg 1 Y<|wx Y (fw h1 h3 ht hp 3 0 MK) fun|_,⟨⟨o1,n1,i1,a1⟩,bs,rfl,ba,bX⟩=>⟨Y,?_⟩
      exact jX<|wg 1 Y<|wt Y ⟨.mk 3 (nm 116 0) [] [⟨o1,n1,i1,a1⟩] [] [],bs,left,rfl,.del (by show 0<tables;omega) ba,MK,by simp[St.sub,St.ns]⟩
     ·refine wn Y ay<|wn Y ay<|wn Y ay<|wn Y ay<|wn Y ay<|wn Y ay<|wn Y ay<|wn Y ay<|wg 1 Y<|wx Y (mP MK MK) fun|_,⟨ki,bs,rfl,iu,hb⟩=>⟨Y,?_⟩
      refine gI<|wg 1 Y<|wx Y (fw h1 h3 ht hp 3 0 MK) fun|_,⟨⟨o1,n1,i1,a1⟩,bs,rfl,ba,bX⟩=>⟨Y,?_⟩
      exact nP<|wg 1 Y<|wt Y ⟨.mk 1 (nm 120 ki) [] [⟨o1,n1,i1,a1⟩] [] [],bs,left,rfl,.mZ ki iu ba,MK,by simp[St.sub,St.ns]⟩
    ·refine d_ Y ay ?_ ?_<;>intro h
     ·refine wy Y af<|wg 1 Y<|wx Y (Fh h1 h3 ht bK hp 2 0 MK) fun|_,⟨⟨o1,n1,i1,a1⟩,bs,rfl,ba,bX⟩=>⟨Y,?_⟩
      refine jX<|wo Y oI<|wg 1 Y<|wx Y (ih (d+1) f MK _ _ MK) fun|_,⟨th,bs,left,rfl,kM,K9,K8⟩=>⟨Y,?_⟩
      refine iW<|wo Y oI<|wg 1 Y ?_
      (have _:=kM;refine wx Y (ih (d+1) f MK _ _ MK) ?_;rintro _ ⟨el,bs,left,rfl,fI,bA5,bA4⟩;refine⟨rfl,?_⟩)
      dsimp only [ew,Ex.r,St.r,c_,n_];exact wg 1 Y<|wt Y ⟨.mk 4 [] [] [⟨o1,n1,i1,a1⟩] th el,bs,left,rfl,.cond ba kM fI,MK,by show _+(St.ns th+St.ns el)<=_;omega⟩
     ·refine d_ Y ay ?_ ?_<;>intro h
      ·refine wy Y af<|wg 1 Y<|wx Y (Fh h1 h3 ht bK hp 2 0 MK) fun|_,⟨⟨o1,n1,i1,a1⟩,bs,rfl,ba,bX⟩=>⟨Y,?_⟩
       refine jX<|wo Y oI<|wg 1 Y<|wx Y (ih (d+1) f MK _ _ MK) fun|_,⟨th,bs,left,rfl,kM,K9,K8⟩=>⟨Y,?_⟩
       refine iW<|wo Y oI<|wg 1 Y ?_
       (have _:=kM;refine wx Y (ih (d+1) f MK _ _ MK) ?_;rintro _ ⟨el,bs,left,rfl,fI,bA5,bA4⟩;refine⟨rfl,?_⟩)
       dsimp only [ew,Ex.r,St.r,c_,n_];exact wg 1 Y<|wt Y ⟨.mk 4 [] [] [⟨o1,n1,i1,a1⟩] th el,bs,left,rfl,.cond ba kM fI,MK,by show _+(St.ns th+St.ns el)<=_;omega⟩
      ·refine d_ Y ay ?_ ?_<;>intro h
       ·refine d_ Y af ?_ ?_<;>intro h
        ·refine wg 1 Y<|wx Y (Fh h1 h3 ht bK hp 2 0 MK) fun|_,⟨⟨o1,n1,i1,a1⟩,bs,rfl,ba,bX⟩=>⟨Y,?_⟩
         refine jX<|wo Y oI<|wg 1 Y<|wx Y (ih (d+1) f MK _ _ MK) fun|_,⟨th,bs,left,rfl,kM,K9,K8⟩=>⟨Y,?_⟩
         exact iW<|wg 1 Y<|wt Y ⟨.mk 5 [] [] [⟨o1,n1,i1,a1⟩] th [],bs,left,rfl,.Du ba kM,MK,by show _+(St.ns th+0)<=_;omega⟩
        ·refine wn Y ay<|wn Y ay<|wn Y ay<|wn Y ay<|wn Y ay<|wg 1 Y<|wx Y (mP MK MK) fun|_,⟨ki,bs,rfl,iu,hb⟩=>⟨Y,?_⟩
         refine gI<|wg 1 Y<|wx Y (fw h1 h3 ht hp 3 0 MK) fun|_,⟨⟨o1,n1,i1,a1⟩,bs,rfl,ba,bX⟩=>⟨Y,?_⟩
         exact nP<|wg 1 Y<|wt Y ⟨.mk 1 (nm 120 ki) [] [⟨o1,n1,i1,a1⟩] [] [],bs,left,rfl,.mZ ki iu ba,MK,by simp[St.sub,St.ns]⟩
       ·refine d_ Y ay ?_ ?_<;>intro h
        ·refine wo Y bc<|wg 1 Y<|wx Y (fy (ep ar).length MK) fun|_,⟨to,bs,rfl,sS,hb⟩=>⟨Y,?_⟩
         refine lR ?_
         (obtain⟨l,hl,l5,fM,dK,aL⟩:=AJ sS cP;refine e_ Y (ax l5 rfl) rfl ?_)
         refine wg 1 Y<|wo Y bc<|wg 1 Y<|wx Y (fy (li l).length MK) fun|_,⟨hh,bs,rfl,sY,hb⟩=>⟨Y,?_⟩
         refine iW<|Wp.dt Y (qj (n:=3)) (xK sS gS)<|wo Y (GW MK)<|wo Y (ax (by assumption) rfl)<|wg 1 Y ?_
         (obtain⟨n,hn,ly,fj⟩:=Aj sY aL;refine e_ Y (ax ly rfl) rfl ?_)
         refine wg 1 Y<|wl Y (l8 (c:=104) (n:=3) MK MK) rfl<|wo Y (ax (nD MK) rfl)<|wg 2 Y<|wx Y (zB h1 h3 ht hp (n:=n) MK) fun|_,⟨es,bs,rfl,dU,fI,bP⟩=>⟨Y,?_⟩
         exact LF<|wt Y ⟨.mk 6 [(97+to).toUInt8] (nm 104 hh) es [] [],bs,left,rfl,.send to hh n hl hn dU fI,MK,by simp[St.sub,St.ns]⟩
        ·refine d_ Y ay ?_ ?_<;>intro h
         ·refine wo Y bc<|wg 1 Y<|wx Y (fy (ep ar).length MK) fun|_,⟨to,bs,rfl,sS,hb⟩=>⟨Y,?_⟩
          refine lR ?_
          (obtain⟨l,hl,l5,fM,dK,aL⟩:=AJ sS cP;refine e_ Y (ax l5 rfl) rfl ?_)
          refine wg 1 Y<|wo Y bc<|wg 1 Y<|wx Y (fy (li l).length MK) fun|_,⟨hh,bs,rfl,sY,hb⟩=>⟨Y,?_⟩
          refine iW<|Wp.dt Y (qj (n:=3)) (xK sS gS)<|wo Y (GW MK)<|wo Y (ax (by assumption) rfl)<|wg 1 Y ?_
          (obtain⟨n,hn,ly,fj⟩:=Aj sY aL;refine e_ Y (ax ly rfl) rfl ?_)
          refine wg 1 Y<|wl Y (l8 (c:=104) (n:=3) MK MK) rfl<|wo Y (ax (nD MK) rfl)<|wg 2 Y<|wx Y (zB h1 h3 ht hp (n:=n) MK) fun|_,⟨es,bs,rfl,dU,fI,bP⟩=>⟨Y,?_⟩
          exact LF<|wt Y ⟨.mk 6 [(97+to).toUInt8] (nm 104 hh) es [] [],bs,left,rfl,.send to hh n hl hn dU fI,MK,by simp[St.sub,St.ns]⟩
         ·refine d_ Y ay ?_ ?_<;>intro h
          ·(obtain⟨l,hl,l5,fM,dK,aL⟩:=AJ lK cP;refine e_ Y (ax l5 rfl) rfl ?_)
           refine wg 1 Y<|wo Y bc<|wg 1 Y<|wx Y (fy (li l).length MK) fun|_,⟨hh,bs,rfl,sY,hb⟩=>⟨Y,?_⟩
           refine jX<|wg 1 Y<|wx Y (fw h1 h3 ht hp 2 1 MK) fun|_,⟨⟨o1,n1,i1,a1⟩,bs,rfl,ba,bX⟩=>⟨Y,?_⟩
           refine LI<|wo Y (ax (by assumption) rfl)<|wg 1 Y ?_
           (obtain⟨n,hn,ly,fj⟩:=Aj sY aL;refine e_ Y (ax ly rfl) rfl ?_)
           refine wg 1 Y<|wl Y (l8 (c:=104) (n:=3) MK MK) rfl<|wo Y (ax (nD MK) rfl)<|wg 2 Y<|wx Y (zB h1 h3 ht hp (n:=n) MK) fun|_,⟨es,bs,rfl,dU,fI,bP⟩=>⟨Y,?_⟩
           dsimp only [ew,Ex.r,St.r,c_,n_];exact wg 1 Y<|wo Y (yg (W1 _) (by rw[qV,fI];show 1+n<=_;omega) (by rw[qV,fI];show(1+n)*56<=_;omega))<|wt Y ⟨.mk 7 [] (nm 104 hh) (⟨o1,n1,i1,a1⟩::es) [] [],bs,left,rfl,.Bi hh n hl hn (fun e h=>by rcases xG.1 h with rfl|h;exact ba.mono MK;exact dU e h) (by rw[xi,fI]),MK,by simp[St.sub,St.ns]⟩
          ·refine d_ Y ay ?_ ?_<;>intro h
           ·refine wy Y af<|wg 1 Y<|wx Y (fy 2 MK) fun|_,⟨k,bs,rfl,hk,hb⟩=>⟨Y,?_⟩
            refine gI<|d_ Y ay ?_ ?_<;>intro h
            ·refine wg 1 Y<|wx Y (zB h1 h3 ht hp (n:=2) MK) fun|_,⟨es,bs,rfl,dU,fI,bP⟩=>⟨Y,?_⟩
             refine oa<|wo Y oI<|wg 1 Y<|wx Y (ih (d+1) f MK _ _ MK) fun|_,⟨th,bs,left,rfl,kM,K9,K8⟩=>⟨Y,?_⟩
             refine D4 ?_
             (obtain⟨a,b,rfl⟩:=K3 fI;exact wt Y ⟨.mk 8 [] [] [a,b] [] th,bs,left,rfl,.store (dU a NS) (dU b NS) kM,MK,by show _+(0+St.ns th)<=_;omega⟩)
            ·refine wg 1 Y<|wx Y (mP MK MK) fun|_,⟨ki,bs,rfl,iu,hb⟩=>⟨Y,?_⟩
             refine oa<|wg 1 Y<|wx Y (fw h1 h3 ht hp 3 0 MK) fun|_,⟨⟨o1,n1,i1,a1⟩,bs,rfl,ba,bX⟩=>⟨Y,?_⟩
             refine mv<|wo Y oI<|wg 1 Y<|wx Y (ih (d+1) f MK _ _ MK) fun|_,⟨th,bs,left,rfl,kM,K9,K8⟩=>⟨Y,?_⟩
             dsimp only [ew,Ex.r,St.r,c_,n_];exact wg 1 Y<|wt Y ⟨.mk 9 (nm 120 ki) [] [⟨o1,n1,i1,a1⟩] [] th,bs,left,rfl,.Dg ki iu ba kM,MK,by show _+(0+St.ns th)<=_;omega⟩
           ·refine d_ Y ay ?_ ?_<;>intro h
            ·refine wg 1 Y<|wx Y (fy 3 MK) fun|_,⟨k,bs,rfl,hk,hb⟩=>⟨Y,?_⟩
             refine gI<|d_ Y ay ?_ ?_<;>intro h
             ·exact wt Y ⟨.mk 10 [] [] [] [] [],bs,left,rfl,.stop,MK,by simp[St.sub,St.ns]⟩
             ·refine wg 1 Y<|wx Y (mP MK MK) fun|_,⟨ki,bs,rfl,iu,hb⟩=>⟨Y,?_⟩
              refine oa<|wg 1 Y<|wx Y (fw h1 h3 ht hp 3 0 MK) fun|_,⟨⟨o1,n1,i1,a1⟩,bs,rfl,ba,bX⟩=>⟨Y,?_⟩
              exact mv<|wg 1 Y<|wt Y ⟨.mk 1 (nm 120 ki) [] [⟨o1,n1,i1,a1⟩] [] [],bs,left,rfl,.mZ ki iu ba,MK,by simp[St.sub,St.ns]⟩
            ·refine wg 1 Y<|wx Y (mP MK MK) fun|_,⟨ki,bs,rfl,iu,hb⟩=>⟨Y,?_⟩
             refine gI<|wg 1 Y<|wx Y (fw h1 h3 ht hp 3 0 MK) fun|_,⟨⟨o1,n1,i1,a1⟩,bs,rfl,ba,bX⟩=>⟨Y,?_⟩
             exact nP<|wg 1 Y<|wt Y ⟨.mk 1 (nm 120 ki) [] [⟨o1,n1,i1,a1⟩] [] [],bs,left,rfl,.mZ ki iu ba,MK,by simp[St.sub,St.ns]⟩
theorem aA0(h1:1<=ints)(h3:ints<=3)(ht:tables<=1)(bK:flags<=2)(hp:params<=2)(lK:own<(ep ar).length)(gS:(ep ar).length<=3)(cP:∀l∈ar,1<=l.length/\l.length<=3/\∀n∈l,n<=2):
 ∀(L:Nat),L<=12->∀(d f:Nat),d+f=3->∀(l:JH) (bs:EH) (left:Nat),left<=L->left+St.ns l<=12->jQ ⟨⟨ints,tables,flags,params⟩,ar,own⟩ (f+1) l->Rn F X 6 1 (iD d:: .sl (St.rs l)::ew ints tables flags own ar params bs left) (fun o=>∃l' fk kn,o= .sl (St.rs l')::ew ints tables flags own ar params fk kn/\jQ ⟨⟨ints,tables,flags,params⟩,ar,own⟩ (f+1) l'/\fk.length<=bs.length/\kn+St.ns l'<=left+St.ns l):=by
 intro L
 induction L with
 |zero=>
  intro hL d f hd l bs left hl hn hb;obtain rfl:left=0:=MK
  refine wr Y<|wo Y bc<|d_ Y bZ ?_ ?_<;>intro h
  ·exact wg 1 Y<|wt Y ⟨l,bs,0,rfl,hb,MK,MK⟩
  ·exact wt Y ⟨l,bs,0,rfl,hb,MK,MK⟩
 |succ L ih=>
  intro hL d f hd l bs left hl hn hb;have ihb:∀(d f:Nat),d+f=3->∀(bs:EH) (left:Nat),left<=L->Rn F X 6 0 [iD ints,iD tables,iD flags,iD own,.sl (ep ar),iD params,.sl (bG bs),iD left,iD d] (QX ints tables flags own ar params bs left f):=by
   intro d f hd bs left hl;refine wr Y<|b_ Y ?_;refine(ih MK d f hd [] bs left hl (by show left+0<=12;omega) (fun s h=>by cases h)).mono ?_;rintro _ ⟨l',fk,kn,rfl,q1,q2,q3⟩;exact⟨l',fk,kn,rfl,q1,q2,q3⟩
  have bk:=mS l;refine wr Y<|wo Y bc<|d_ Y bZ ?_ ?_<;>intro h
  ·refine d_ Y bZ ?_ ?_<;>intro h
   ·refine wg 1 Y<|wx Y (fy 14 MK) fun|_,⟨k,bs,rfl,hk,hkb⟩=>⟨Y,?_⟩
    refine lR<|d_ Y ay ?_ ?_<;>intro h
    ·exact wt Y ⟨l,bs,left,rfl,hb,MK,MK⟩
    ·refine wo Y oW<|wg 1 Y<|wx Y (aL6 h1 h3 ht bK hp lK gS cP ihb d f hd k _ _ hk MK) fun|_,⟨⟨kk,n1,n2,es,th,el⟩,bs,C7,rfl,hs,hsb,hsn⟩=>⟨Y,?_⟩
     dsimp only [ew,Ex.r,St.r,c_,n_];refine wg 2 Y<|wo Y (gb rfl rfl (by rw[nC];omega) (by rw[nC];omega))<|b_ Y (Rn.mono (ds:=iD d:: .sl (St.rs l++[St.r ⟨kk,n1,n2,es,th,el⟩])::ew ints tables flags own ar params bs C7) (by rw[NM];exact ih MK d f hd _ bs C7 MK (by rw[OA];omega) (fun s h=>by rcases xF.1 h with h|h;exact hb s h;rw[xy] at h;subst h;exact hs)) (by rintro _ ⟨l',fk,kn,rfl,q1,q2,q3⟩;rw[OA] at q3;exact⟨l',fk,kn,rfl,q1,MK,MK⟩))
   ·exact wt Y ⟨l,bs,left,rfl,hb,MK,MK⟩
  ·exact wt Y ⟨l,bs,left,rfl,hb,MK,MK⟩
theorem aT4(h1:1<=ints)(h3:ints<=3)(ht:tables<=1)(bK:flags<=2)(hp:params<=2)(lK:own<(ep ar).length)(gS:(ep ar).length<=3)(cP:∀l∈ar,1<=l.length/\l.length<=3/\∀n∈l,n<=2){bs:EH}{left:Nat}(hl:left<=12):Rn F X 6 0 [iD ints,iD tables,iD flags,iD own,.sl (ep ar),iD params,.sl (bG bs),iD left,iD 0] (QX ints tables flags own ar params bs left 3):=by
 refine wr Y<|b_ Y ?_;refine(aA0 h1 h3 ht bK hp lK gS cP 12 MK 0 3 MK [] bs left hl (by show left+0<=12;omega) (fun s h=>by cases h)).mono ?_;rintro _ ⟨l',fk,kn,rfl,q1,q2,q3⟩;exact⟨l',fk,kn,rfl,q1,q2,q3⟩
end
end
end Go.Proofs.YthicpeihkkokmaaGreatDoor
namespace Go.Fl
open Go.Ex
structure Cd where
 params:UInt8
 bytes:EH
structure Pt where
 ints:UInt8
 tables:UInt8
 hs:List Cd
 second:List Cd
def Cd.d(c:Cd):Di:=[bD c.params.toNat,.sl (bG c.bytes)]
def Pt.d(p:Pt):Di:=[bD p.ints.toNat,bD p.tables.toNat,.sl (p.hs.map Cd.d),.sl (p.second.map Cd.d)]
def aP(c k:Nat):L5:=(List.range k).map (nm c)
structure rq (ints tables flags own:Nat) (ar:Dw) (al:Es) (k:Nat) (h:Hn):Prop where
 name:h.name=nm 104 k
 lW:∃n,al[k]? =some n/\h.params=aP 112 n/\jQ ⟨⟨ints,tables,flags,n⟩,ar,own⟩ 4 h.body
 n:St.ns h.body<=12
end Go.Fl
namespace Go.Proofs.YthicpeihkkokmaaGreatDoor
open Go.Ex Go.RowKit Go.Fl
section
variable{X:Bv}
theorem AI{α:Type}{f:α->Di}{l:List α}{i:Nat}(h:i<(l.map f).length):∃a,l[i]? =some a/\(l.map f)[i]? =some (f a):=by
 have hi:i<l.length:=by rw[<-xm f];exact h
 exact⟨l[i],xc hi,by rw[xx,xc hi];rfl⟩
theorem xT(a b:Nat):Rn F X 8 0 [jD a,jD b] (·=[jD (min a b)]):=by
 refine wr Y<|d_ Y af ?_ ?_<;>intro h
 ·exact wt Y (by show[jD a]=_;rw[Nat.min_eq_left MK])
 ·exact wt Y (by show[jD b]=_;rw[Nat.min_eq_right MK])
theorem NW(l:Es)(n:Nat):li l++[[iD n]]=li (l++[n]):=by simp[li]
theorem zU(l:Es):(li l).length=l.length:=xm _
def ArQ(p:Pt)(o:Di):Prop:=∃l,o=[.sl (li l)]/\l.length=min 3 (max 1 (max p.hs.length p.second.length))/\∀n∈l,n<=2
theorem av4(p:Pt):∀(f i:Nat),i+f=3->∀(l:Es),l.length=min i (max 1 (max p.hs.length p.second.length))->(∀n∈l,n<=2)->Rn F X 9 1 (.sl (li l)::iD i::[bD p.ints.toNat,bD p.tables.toNat,.sl (p.hs.map Cd.d),.sl (p.second.map Cd.d)]) (ArQ p):=by
 intro f
 induction f with
 |zero=>
  intro i hi l hl hn;obtain rfl:i=3:=MK
  exact wr Y<|wg 1 Y<|wt Y ⟨l,rfl,hl,hn⟩
 |succ f ih=>
  intro i hi l hl hn;obtain⟨pi,pt,hs,second⟩:=p;have hA:(hs.map Cd.d).length=hs.length:=xm _;have hB:(second.map Cd.d).length=second.length:=xm _;dsimp only at hl ih⊢;have fG:l.length=min i (max 1 (max hs.length second.length)):=hl;refine wr Y<|wy Y af<|wo Y bc<|d_ Y af ?_ ?_<;>intro h
  ·(obtain⟨a,ha,hd⟩:=AI (f:=Cd.d) (l:=hs) (i:=i) MK;refine e_ Y (ax hd rfl) rfl ?_)
   refine wg 2 Y<|nR<|wo Y (ka (b:=3) .u8 MK)<|wo Y oC<|wg 2 Y<|wo Y (gb rfl rfl (by rw[zU];omega) (by rw[zU];omega))<|m6<|wo Y oA ?_
   (have:=ih (i+1) MK (l++[a.params.toNat%3]) Of (fun n h=>by rcases xF.1 h with h|h;exact hn n h;rw[xy] at h;omega);rw[<-NW] at this;exact b_ Y this)
  ·refine d_ Y ay ?_ ?_<;>intro h
   ·refine wg 2 Y<|wo Y (gb rfl rfl (by rw[zU];omega) (by rw[zU];omega))<|wo Y oA<|nR ?_
    (have:=ih (i+1) MK (l++[1]) Of (fun n h=>by rcases xF.1 h with h|h;exact hn n h;rw[xy] at h;omega);rw[<-NW] at this;exact b_ Y this)
   ·refine wo Y bc<|d_ Y af ?_ ?_<;>intro h
    ·(obtain⟨a,ha,hd⟩:=AI (f:=Cd.d) (l:=second) (i:=i) MK;refine e_ Y (ax hd rfl) rfl ?_)
     refine wg 1 Y<|nR<|wg 1 Y<|wo Y (ka (b:=3) .u8 MK)<|wo Y oC<|wg 2 Y<|m6<|wo Y (gb rfl rfl (by rw[zU];omega) (by rw[zU];omega))<|wo Y oA ?_
     (have:=ih (i+1) MK (l++[a.params.toNat%3]) Of (fun n h=>by rcases xF.1 h with h|h;exact hn n h;rw[xy] at h;omega);rw[<-NW] at this;exact b_ Y this)
    ·exact wo Y oA<|b_ Y (ih (i+1) MK l (by show l.length=min (i+1) (max 1 (max hs.length second.length));omega) hn)
theorem aJ9(p:Pt):Rn F X 9 0 p.d (ArQ p):=by
 obtain⟨pi,pt,hs,second⟩:=p;refine wr Y<|b_ Y ?_;exact av4 ⟨pi,pt,hs,second⟩ 3 0 MK [] NS (fun n h=>by cases h)
theorem ar4(l:EH)(k:Nat):(bG l).take k=bG (l.take k):=by simp[bG,List.map_take]
variable{ints tables flags own:Nat}{ar:Dw}
def HsQ(ints tables flags own:Nat)(ar:Dw)(al:Es)(m:Nat)(o:Di):Prop:=∃(hs:List Hn) (params:Nat) (bs:EH) (left:Nat),o= .sl (hs.map Hn.r)::ew ints tables flags own ar params bs left/\hs.length=m/\∀k h,hs[k]? =some h->rq ints tables flags own ar al k h
theorem aL5(c k:Nat):strs (aP c k)=ku c k:=by simp[strs,aP,ku]
theorem an1(h1:1<=ints)(h3:ints<=3)(ht:tables<=1)(bK:flags<=2)(lK:own<(ep ar).length)(gS:(ep ar).length<=3)(cP:∀l∈ar,1<=l.length/\l.length<=3/\∀n∈l,n<=2){al:Es}(aR:ar[own]? =some al)(cs:List Cd)(df:cs.length<=al.length):
 ∀(f i:Nat),i+f=cs.length->∀(hs:List Hn) (params:Nat) (bs:EH) (left:Nat),hs.length=i->(∀k h,hs[k]? =some h->rq ints tables flags own ar al k h)->Rn F X 10 1 (.sl (hs.map Hn.r):: .sl (cs.map Cd.d)::jD (cs.map Cd.d).length::iD i::ew ints tables flags own ar params bs left) (HsQ ints tables flags own ar al cs.length):=by
 have hA:(cs.map Cd.d).length=cs.length:=xm _;have ag0:al.length<=3:=by
  have:=xu aR;exact(cP al this).2.1
 intro f
 induction f with
 |zero=>
  intro i hi hs params bs left hl hk;exact wr Y<|wn Y af<|wt Y ⟨hs,params,bs,left,rfl,MK,hk⟩
 |succ f ih=>
  intro i hi hs params bs left hl hk;obtain⟨l,ni,l5,fM,dK,aL⟩:=AJ lK cP;obtain rfl:l=al:=by rw[aR] at ni;cases ni;rfl
  have oE:(hs.map Hn.r).length=hs.length:=xm _;obtain⟨n,hn,ly,fj⟩:=Aj (l:=l) (k:=i) (by rw[zU];omega) aL;obtain⟨a,ha,hd⟩:=AI (f:=Cd.d) (l:=cs) (i:=i) MK;refine wr Y<|wy Y af<|wo Y (ax hd rfl)<|wg 1 Y<|dW<|wo Y (ax l5 rfl)<|wg 1 Y<|wo Y (ax ly rfl)<|wg 1 Y<|gI<|wo Y bc<|wl Y (xT _ 40) rfl<|wo Y (mW MK)<|wl Y (l8 (c:=104) (n:=3) MK MK) rfl<|pP<|wo Y (ax (nD MK) rfl)<|wg 1 Y<|wl Y (l8 (c:=112) (n:=n) MK MK) rfl<|wg 1 Y ?_;rw[ar4];refine wx Y (aT4 h1 h3 ht bK fj lK gS cP (left:=12) MK) fun|_,⟨l2,bs,left,rfl,bX,bP,p6⟩=>⟨Y,?_⟩
  dsimp only [ew,Ex.r,St.r,c_,n_,kK,kJ,kI,kH,kG];refine wg 2 Y<|wo Y oP<|wo Y oA<|b_ Y ?_;have:=ih (i+1) MK (hs++[⟨nm 104 i,aP 112 n,l2⟩]) n bs left Of (fun k h hh=>by
   rcases Nat.lt_or_ge k hs.length with bm|jv
   ·rw[xw bm] at hh;exact hk k h hh
   ·rw[xq jv] at hh;have h0:k - hs.length=0:=by
     rcases xI (k - hs.length) with h|h
     ·exact h
     ·rw[List.getElem?_eq_none Of] at hh;cases hh
    rw[h0] at hh;cases hh;obtain rfl:k=i:=MK
    exact⟨rfl,⟨n,hn,rfl,bX⟩,by show St.ns l2<=12;omega⟩)
  have e:(hs++[(⟨nm 104 i,aP 112 n,l2⟩:Hn)]).map Hn.r=hs.map Hn.r++[[.str (nm 104 i),.sl (ku 112 n),.sl (St.rs l2)]]:=by
   rw[List.map_append];show _++[[_,D.sl (strs (aP 112 n)),_]]=_
   rw[aL5]
  rw[e] at this;exact this
theorem wV(h1:1<=ints)(h3:ints<=3)(ht:tables<=1)(bK:flags<=2)(lK:own<(ep ar).length)(gS:(ep ar).length<=3)(cP:∀l∈ar,1<=l.length/\l.length<=3/\∀n∈l,n<=2){al:Es}(aR:ar[own]? =some al){cs:List Cd}(df:cs.length<=al.length){params left:Nat}{bs:EH}:
 Rn F X 10 0 [iD ints,iD tables,iD flags,iD own,.sl (ep ar),iD params,.sl (bG bs),iD left,.sl (cs.map Cd.d)] (HsQ ints tables flags own ar al cs.length):=by
 refine wr Y<|wo Y bc<|b_ Y ?_;exact an1 h1 h3 ht bK lK gS cP aR cs df cs.length 0 MK [] params bs left rfl (fun k h hh=>by simp at hh)
end
end Go.Proofs.YthicpeihkkokmaaGreatDoor
