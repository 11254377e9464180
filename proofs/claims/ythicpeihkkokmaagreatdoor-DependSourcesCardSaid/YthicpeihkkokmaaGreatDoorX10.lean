/- A verified evaluator of Go functions. -/
import Derived.Test.YthicpeihkkokmaaGreatDoorX9
import Derived.Test.YthicpeihkkokmaaGreatDoorX8
import Derived.Deep.Slices
import Derived.Deep.Strs
set_option linter.unusedVariables false
set_option linter.unusedSimpArgs false
namespace Go.Ex
variable{k:NK}{L:a0l}{tape:List Node}{j nob n m nk f:Nat}{Q:(a0j)->Node->Prop}{LL:World->Prop}{ρ:a0g}{δ:a0j}{α:Type}{P:Program}{E:au}{env out ds o:a0d}{left:a0b}{aN us args:a0e}{td:List Item}{nd:Node}{d:D}{Q':a0d->Prop}{cT:List (Option xM)}
open Go.RowKit
noncomputable section
theorem Pd:∀(k:Nat) (l:a0l) (i:Nat) (x:aE),l[i]? =some (some x)->i+1<2^k->(fill k l).get none i=some x
 |0,l,i,x,_,h=>a0B
 |k+1,[],i,x,h,_=>by simp at h
 |k+1,a::r,i,x,h,hi=>by
  rw[Nat.pow_succ] at hi;show(T.node (fill k (alt r true)) a (fill k (alt r false))).get none i=some x;rw[T.kN];split
  ·rename_i h0;subst h0;simpa using h
  ·split
   ·refine Pd k _ _ _ ?_ a0B;rw[DO];rw[show i=2*(i/2)+1 by omega,List.getElem?_cons_succ] at h;simpa using h
   ·refine Pd k _ _ _ ?_ a0B;rw[DO];rw[show i=(2*(i/2 - 1)+1)+1 by omega,List.getElem?_cons_succ] at h;simpa using h
theorem Hi{T:kg}{k:Nat}{tb:aE}(h:T.hp[j]? =some tb)(hk:L.length+T.hp.length<2^k):(T.aw k L tape).get (L.length+j)=some tb:=by
 refine Pd k _ _ _ ?_ a0D;unfold Bo;rw[mF,pj,xq a0B,show L.length+j - L.length=j by omega,xx,h];rfl
def EI(nob n:Nat)(ρ:a0g)(j:Nat):Nat:=if j<nob then ρ.getD j 0 else n+(j - nob)
section
variable{w0 w w':World}{aH β':af}{A1 A2:AW}{k:Nat}{hp':List aE}
def tU(L:a0l)(nob n:Nat)(aH β':af):af where
 f:=fun B=>if B<n then aH B else β' (L.length+(nob+(B - n)))
 z:=β'.z
 d:=aH.d
 x:=aH.x
 o:=fun B=>if B<n then aH.o B else β'.o (L.length+(nob+(B - n)))
 y:=aH.y
theorem qM(n:Nat)(B:Nat):(tU L nob n aH β') B=if B<n then aH B else β' (L.length+(nob+(B - n))):=rfl
theorem Lt(n:Nat)(B:Nat):(tU L nob n aH β').o B=if B<n then aH.o B else β'.o (L.length+(nob+(B - n))):=rfl
theorem Inv.gn{G:GP}{β:af}{A:AW}(h:Inv w0 G β A w):G.n<=A.next:=by
 cases hn:G.n with
 |zero=>omega
 |succ m=>
  obtain⟨l,h1,_⟩:=h.jk m a0B;exact h.fI m l h1
theorem Inv.merge(inv:Inv w0 ⟨L.length,Q,LL⟩ aH A1 w)(hρ:∀(i x:Nat),ρ[i]? =some x->x=cK\/(L.length<=x/\∃blk,A1.get x=some blk))(dj:∀(i j x:Nat),ρ[i]? =some x->ρ[j]? =some x->x≠cK->i=j)
 (Mr:∀i,i<nob->∃x,ρ[i]? =some x/\x≠cK) (l8:Inv w (G0 L LL) β' ((nD hp').aw k L []) w') (hx:β'.x=MS L.length (pE L.length ρ aH δ)) (Ej:∀B,B<L.length+nob->β' B=(pE L.length ρ aH δ) B/\(L.length<=B->β'.o B=(pE L.length ρ aH δ).o B)) (hz:∀b c,aH.z b=some c->β'.z b=some c)
 {res:a0e} (mP:∀(c:Nat) (r:xM),res[c]? =some r->∃d,β'.d c=some d/\eH aH.d r=some d) {qs:a0g} (CF:qs.length=hp'.length/\∀(j x:Nat),qs[j]? =some x->x=EI nob A1.next ρ j) (aK:nob<=hp'.length)
 (lJ:∀B blk,A2.get B=some blk->(∃(j:Nat) (tb:aE),qs[j]? =some B/\hp'[j]? =some tb/\wB L.length nob qs res tb=some blk)\/(B<A1.next/\(∀(i:Nat),ρ[i]?≠some B)/\A1.get B=some blk)) (Bw:A2.next=A1.next+(hp'.length - nob)) (bu7:∀nd∈A2.tape,nd∈A1.tape) (EV:L.length+hp'.length<2^k):
 Inv w0 ⟨L.length,Q,LL⟩ (tU L nob A1.next aH β') A2 w'/\aH.grow (tU L nob A1.next aH β') A1.next/\zU L.length nob qs res β' (tU L nob A1.next aH β'):=by
 have hgn:L.length<=A1.next:=inv.gn;have bC7:∀(i x:Nat),ρ[i]? =some x->x≠cK->x<A1.next:=fun i x h hn=>by
  grind [absurd,Nat.lt_of_not_le,inv.cW]
 have hX:∀b,β'.x b->∃i x l,ρ[i]? =some x/\x≠cK/\L.length<=x/\aH x=some l/\l.b=b:=fun b hb=>by
  rw[hx] at hb;obtain⟨B,l,e1,e2,e3⟩:=hb;have e1:L.length<=B:=e1;rw[y5,if_neg a0B] at e2;cases oZ:ρ[B - L.length]? with
  |none=>grind
  |some x=>
   rw[oZ] at e2;have e2:(if x=cK then none else aH x)=some l:=e2;by_cases hn:x=cK
   ·grind
   ·rw[if_neg hn] at e2;rcases hρ _ x oZ with e|⟨e,_⟩
    ·grind
    ·exact⟨_,x,l,oZ,hn,e,e2,e3⟩
 have ac1:∀b c,β'.z b=some c->aH.z b=some c\/w.heap.size<=b\/β'.x b:=fun b c h=>by
  have:=l8.zo b c h;rw[show β'.x.z0=aH.z by rw[hx];rfl] at this;exact this
 have KP:∀b,β'.x b->w0.heap.size<=b\/aH.x b:=fun b hb=>by
  obtain⟨i,x,l,e1,e2,e3,e4,e5⟩:=hX b hb;rcases(inv.loc x l e4).2 with h|h
  ·grind
  grind
 have bD0:∀B l blk,(∀(i:Nat),ρ[i]?≠some B)->A1.get B=some blk->aH B=some l-> ¬β'.x l.b:=fun B l blk hB hg hl hb=>by
  grind [inv.inj]
 have ao:∀(j B:Nat),qs[j]? =some B->(tU L nob A1.next aH β') B=β' (L.length+j)/\((tU L nob A1.next aH β').o B=β'.o (L.length+j))/\(j<nob->ρ[j]? =some B/\B≠cK/\B<A1.next)/\(nob<=j->B=A1.next+(j - nob)):=fun j B hj=>by
  have e:=CF.2 j B hj;unfold EI at e;by_cases hn:j<nob
  ·rw[if_pos hn] at e;obtain⟨x,e1,e2⟩:=Mr j hn;have ex:B=x:=by rw[e,List.getD_eq_getElem?_getD,e1];rfl
   subst ex;have bk:=bC7 j B e1 e2;obtain⟨k1,k2⟩:=Ej (L.length+j) a0B;refine⟨?_,?_,fun _=>⟨e1,e2,bk⟩,fun h=>a0B⟩
   ·rw[qM,if_pos bk,k1,y5,if_neg a0B,show L.length+j - L.length=j by omega,e1]
    grind
   ·rw[Lt,if_pos bk,k2 a0B,G5,if_neg a0B,show L.length+j - L.length=j by omega,e1]
    grind
  ·rw[if_neg hn] at e;have h2: ¬B<A1.next:=a0B
   have h3:nob+(B - A1.next)=j:=a0B
   exact⟨by rw[qM,if_neg h2,h3],by rw[Lt,if_neg h2,h3],fun h=>absurd h hn,fun _=>e⟩
 have BA:aH.grow (tU L nob A1.next aH β') A1.next:=⟨fun B hB=>by rw[qM,if_pos hB],hz,fun B hB=>by rw[Lt,if_pos hB],rfl,rfl⟩;have qW:=inv.gC BA;have hS:zU L.length nob qs res β' (tU L nob A1.next aH β'):=by
  refine⟨fun B l hB h=> ?_,fun j x h=>(ao j x h).1,fun j x h=>(ao j x h).2.1,rfl,mP⟩;rw[qM,if_pos (xK hB hgn)];rw[(Ej B a0B).1,y5,if_pos hB] at h;exact h
 refine⟨⟨?_,fun B l h=> ?_,fun B hB=> ?_,fun B l h=> ?_,fun B B' l l' h h' hb h1 h2=> ?_,fun B blk l hg h=> ?_,fun g hg=> ?_,l8.cP,fun B l blk hG h hg hs=> ?_,fun nd dj=>inv.dJ nd (bu7 nd dj),fun B blk hg=> ?_,fun B v h=> ?_,inv.lay,inv.xg,inv.jP,fun b c h=> ?_,fun b hh hy=> ?_⟩,BA,hS⟩
 ·refine⟨l8.below.os.trans inv.below.os,l8.below.tape.trans inv.below.tape,l8.below.output.trans inv.below.output,xH inv.below.size l8.below.size,fun b hb Ui=> ?_⟩;have h1: ¬β'.x b:=fun h=>(KP b h).elim (fun h=>a0B) Ui
  exact(l8.below.block b (xK hb inv.below.size) h1).trans (inv.below.block b hb Ui)
 ·rw[Bw];rw[qM] at h;by_cases hB:B<A1.next
  ·omega
  ·rw[if_neg hB] at h;have:=l8.fI _ l h;rw[yT] at this;have e:(nD hp').hp.length=hp'.length:=rfl;omega
 ·cases hq:A2.get B with
  |none=>rfl
  |some blk=>
   grind
 ·rw[qM] at h;by_cases hB:B<A1.next
  ·rw[if_pos hB] at h;exact⟨xK (inv.loc B l h).1 l8.below.size,(inv.loc B l h).2⟩
  ·rw[if_neg hB] at h;refine⟨(l8.loc _ l h).1,.inr ?_⟩;rcases(l8.loc _ l h).2 with e|e|e
   ·have e:L.length+(nob+(B - A1.next))<L.length:=e;omega
   ·exact .inl (xH inv.below.size e)
   ·exact KP _ e
 ·obtain⟨b1,bY⟩:=Option.isSome_iff_exists.1 h1;obtain⟨b2,bM⟩:=Option.isSome_iff_exists.1 h2;have ag2:∀(B B':Nat) (l l':Loc) (b2:aE),(∃(j:Nat) (tb:aE) (b1:aE),qs[j]? =some B/\hp'[j]? =some tb/\wB L.length nob qs res tb=some b1)->(tU L nob A1.next aH β') B=some l->(tU L nob A1.next aH β') B'=some l'->l.b=l'.b->B'<A1.next->(∀(i:Nat),ρ[i]?≠some B')->A1.get B'=some b2->False:=fun B B' l l' b2 hj hl fj eE vE al0 hg=>by
   obtain⟨j,tb,_,p1,p2,p3⟩:=hj;rw[(ao j B p1).1] at hl;rw[qM,if_pos vE] at fj;have h3:=(inv.loc B' l' fj).1;rcases(l8.loc _ l hl).2 with e|e|e
   ·have e:L.length+j<L.length:=e;omega
   ·omega
   grind
  rcases lJ B b1 bY with hj|⟨e1,e2,e3⟩<;>rcases lJ B' b2 bM with pS|⟨o9,vJ,Jj⟩
  ·obtain⟨j,tb,p1,p2,p3⟩:=hj;obtain⟨j',tb',T8,p2',p3'⟩:=pS;rw[(ao j B p1).1] at h;rw[(ao j' B' T8).1] at h';have:=l8.inj _ _ l l' h h' hb (by rw[Hi (T:=nD hp') p2 EV];rfl) (by rw[Hi (T:=nD hp') p2' EV];rfl);have hjj:j=j':=a0B
   subst hjj;rw[p1] at T8;cases T8;rfl
  ·exact(ag2 B B' l l' b2 (hj.elim fun j hj=>hj.elim fun tb hj=>⟨j,tb,b1,hj⟩) h h' hb o9 vJ Jj).elim
  ·exact(ag2 B' B l' l b1 (pS.elim fun j hj=>hj.elim fun tb hj=>⟨j,tb,b2,hj⟩) h' h hb.symm e1 e2 e3).elim
  ·rw[qM,if_pos e1] at h;rw[qM,if_pos o9] at h'
   grind [inv.inj]
 ·rcases lJ B blk hg with⟨j,tb,p1,p2,p3⟩|⟨e1,e2,e3⟩
  ·rw[(ao j B p1).1] at h;exact aK4 hS p3 (l8.cont _ tb l (Hi (T:=nD hp') p2 EV) h)
  ·rw[qM,if_pos e1] at h;rw[l8.below.block l.b (inv.loc B l h).1 (bD0 B l blk e2 e3 h)];exact(inv.cont B blk l e3 h).mono qW
 ·obtain⟨l,a1,a2,a3⟩:=inv.jk g hg;have hg:g<L.length:=hg;exact⟨l,by rw[qM,if_pos a0B];exact a1,a2,a3⟩
 ·rcases lJ B blk hg with⟨j,tb,p1,p2,p3⟩|⟨e1,e2,e3⟩
  ·rw[(ao j B p1).1] at h;exact l8.sep _ l tb (by show L.length<=_;omega) h (Hi (T:=nD hp') p2 EV) (by grind [aA1])
  ·rw[qM,if_pos e1] at h;have jz:=inv.sep B l blk hG h e3 hs;cases hq:β'.z l.b with
   |none=>exact hq
   |some c=>
    exfalso;rcases ac1 _ _ hq with h1|h1|h1
    ·grind
    ·have:=(inv.loc B l h).1;omega
    grind
 ·rcases lJ B blk hg with⟨j,tb,p1,p2,p3⟩|⟨e1,e2,e3⟩
  ·grind [aK5,Hi,nD,l8.own]
  ·exact(inv.own B blk e3).mono qW
 ·rw[Bw];rw[Lt] at h;by_cases hB:B<A1.next
  ·omega
  ·rw[if_neg hB] at h;have:=l8.iB _ v h;rw[yT] at this;have e:(nD hp').hp.length=hp'.length:=rfl;omega
 ·rcases ac1 b c h with h1|h1|h1
  ·exact inv.zo b c h1
  ·grind [xH,inv.below.size]
  ·exact .inr (KP b h1)
 ·obtain⟨y1,y2,y3,y4⟩:=inv.dR b hh hy;have bM:=(Array.getElem?_eq_some_iff.1 y1).1;have j4: ¬β'.x b:=fun oZ=>by
   grind
  refine⟨by grind [l8.below.block],?_,y3,fun B l h ha=> ?_⟩
  ·show β'.z b=none;cases hq:β'.z b with
   |none=>rfl
   |some c=>
    grind
  ·obtain⟨b1,bY⟩:=Option.isSome_iff_exists.1 ha;rcases lJ B b1 bY with⟨j,tb,p1,p2,p3⟩|⟨e1,e2,e3⟩
   ·rw[(ao j B p1).1] at h;rcases(l8.loc _ l h).2 with e|e|e
    ·have e:L.length+j<L.length:=e;omega
    ·omega
    grind
   ·rw[qM,if_pos e1] at h
    grind
end
def bt0(l:a0e):Option (List Nat):=
 List.rec (motive:=fun _=>Option (List Nat)) (some []) (fun v _ ih=>match v,ih with| .int _ (.ofNat n),some r=>some (n::r)|_,_=>none) l
def Rp(f:aE->Option aE)(l:List aE):Option (List aE):=
 List.rec (motive:=fun _=>Option (List aE)) (some []) (fun v _ ih=>match f v with|some u=>(match ih with|some us=>some (u::us)|none=>none)|none=>none) l
def wu(l:List α):Nat->List α:=
 List.rec (motive:=fun _=>Nat->List α) (fun _=>[]) (fun x _ ih n=>Nat.rec (motive:=fun _=>List α) [] (fun m _=>x::ih m) n) l
def rY(l:List α):Nat->List α:=
 List.rec (motive:=fun _=>Nat->List α) (fun _=>[]) (fun x t ih n=>Nat.rec (motive:=fun _=>List α) (x::t) (fun m _=>ih m) n) l
def xS(c:Nat):Nat->List Nat:=Nat.rec (motive:=fun _=>Nat->List Nat) (fun _=>[]) (fun _ ih n=>n::ih (Nat.succ n)) c
theorem OR{α:Type}:∀(l:List α) (n:Nat),wu l n=l.take n
 |[],n=>by simp[wu]
 |x::l,0=>rfl
 |x::l,n+1=>by show x::wu l n=_;rw[OR l n];rfl
theorem Pf{α:Type}:∀(l:List α) (n:Nat),rY l n=l.drop n
 |[],n=>by simp[rY]
 |x::l,0=>rfl
 |x::l,n+1=>by show rY l n=_;rw[Pf l n];rfl
theorem X1:∀(c n:Nat),(xS c n).length=c
 |0,n=>rfl
 |c+1,n=>by show(n::xS c (n+1)).length=_;simp[X1 c]
theorem X2:∀(c n j x:Nat),(xS c n)[j]? =some x->x=n+j
 |0,n,j,x,h=>by
  have h':([]:a0g)[j]? =some x:=h;simp at h'
 |c+1,n,j,x,h=>by
  have h':(n::xS c (n+1))[j]? =some x:=h;cases j with
  |zero=>simp at h';omega
  |succ j=>simp at h';have:=X2 c (n+1) j x h';omega
theorem Wc{f:aE->Option aE}:∀{l r:List aE},Rp f l=some r->l.length=r.length/\∀(i:Nat) (v u:aE),l[i]? =some v->r[i]? =some u->f v=some u
 |[],r,h=>by cases h;grind
 |x::l,r,h=>by
  have h':(match f x with|some u=>(match Rp f l with|some us=>some (u::us)|none=>none)|none=>none)=some r:=h;split at h'
  ·rename_i u hu;split at h'
   ·rename_i us ig;cases h';obtain⟨k1,k2⟩:=Wc ig;refine⟨by simp[k1],fun i a b ha hb=> ?_⟩;cases i with
    |zero=>simp at ha hb;subst ha;subst hb;exact hu
    |succ i=>simp at ha hb;exact k2 i a b ha hb
   ·cases h'
  ·cases h'
def wE(ρ:a0g):List aE->AW->AW:=
 List.rec (motive:=fun _=>List aE->AW->AW) (fun _ A=>A)
  (fun x _ ih os A=>List.rec (motive:=fun _=>AW) (ih [] (bs (Nat.beq x cK) A (A.put x none))) (fun o Fk _=>ih Fk (bs (Nat.beq x cK) A (A.put x (some o)))) os) ρ
def Cj(l:List aE):AW->AW:=List.rec (motive:=fun _=>AW->AW) (fun A=>A) (fun b _ ih A=>ih (A.add b)) l
theorem Dg:∀(ρ:a0g) (os:List aE) (A:AW),(wE ρ os A).next=A.next/\(wE ρ os A).tape=A.tape
 |[],os,A=>⟨rfl,rfl⟩
 |x::ρ,[],A=>by
  have h:=Dg ρ [] (bs (Nat.beq x cK) A (A.put x none));have e:(bs (Nat.beq x cK) A (A.put x none)).next=A.next/\(bs (Nat.beq x cK) A (A.put x none)).tape=A.tape:=by cases Nat.beq x cK<;>exact⟨rfl,rfl⟩
  exact⟨h.1.trans e.1,h.2.trans e.2⟩
 |x::ρ,o::os,A=>by
  have h:=Dg ρ os (bs (Nat.beq x cK) A (A.put x (some o)));have e:(bs (Nat.beq x cK) A (A.put x (some o))).next=A.next/\(bs (Nat.beq x cK) A (A.put x (some o))).tape=A.tape:=by cases Nat.beq x cK<;>exact⟨rfl,rfl⟩
  exact⟨h.1.trans e.1,h.2.trans e.2⟩
theorem O2:∀(ρ:a0g) (os:List aE) (A:AW) (B:Nat) (blk:aE),(wE ρ os A).get B=some blk->(∃i:Nat,ρ[i]? =some B/\B≠cK/\os[i]? =some blk)\/((∀i:Nat,ρ[i]? =some B->B=cK)/\A.get B=some blk)
 |[],os,A,B,blk,h=> .inr ⟨fun i=>a0C,h⟩
 |x::ρ,os,A,B,blk,h=>by
  have step:∀(o:Option aE) (Fk:List aE),(wE ρ Fk (bs (Nat.beq x cK) A (A.put x o))).get B=some blk->(∃i:Nat,ρ[i]? =some B/\B≠cK/\Fk[i]? =some blk)\/(B=x/\x≠cK/\o=some blk)\/((∀i:Nat,(x::ρ)[i]? =some B->B=cK)/\A.get B=some blk):=fun o Fk h=>by
   rcases O2 ρ Fk _ B blk h with h1|⟨h1,h2⟩
   ·exact .inl h1
   ·have bq:(B=x->B=cK)->∀i:Nat,(x::ρ)[i]? =some B->B=cK:=fun hx i hi=>by
     grind
    cases hb:Nat.beq x cK with
    |true=>
     grind [eQ,xb]
    |false=>
     grind [ku,GU,absurd,A.gk]
  cases os with
  |nil=>
   rcases step none [] h with⟨i,h1,_,h2⟩|⟨_,_,h2⟩|h1
   ·simp at h2
   ·cases h2
   grind
  |cons o os=>
   rcases step (some o) os h with⟨i,h1,h3,h2⟩|⟨h1,h3,h2⟩|h1
   ·exact .inl ⟨i+1,a0D,h3,a0D⟩
   ·exact .inl ⟨0,by simp[h1],a0D,a0D⟩
   grind
theorem JL:∀(l:List aE) (A:AW),(Cj l A).next=A.next+l.length/\(Cj l A).tape=A.tape
 |[],A=>⟨rfl,rfl⟩
 |b::l,A=>by
  have h:=JL l (A.add b);have e:(A.add b).next=A.next+1:=rfl;exact⟨h.1.trans a0D,h.2⟩
theorem XS:∀(l:List aE) (A:AW),(∀B,A.next<=B->A.get B=none)->∀(B:Nat) (blk:aE),(Cj l A).get B=some blk->(∃j:Nat,B=A.next+j/\l[j]? =some blk)\/(B<A.next/\A.get B=some blk)
 |[],A,hA,B,blk,h=> .inr ⟨Nat.lt_of_not_le (fun iL=>by rw[show(Cj [] A).get B=A.get B from rfl,hA B iL] at h;cases h),h⟩
 |b::l,A,hA,B,blk,h=>by
  have hn:∀C,(A.add b).get C=some b/\C=A.next\/(A.add b).get C=A.get C:=A.ni b (hA _ (xk _));have bq:∀C,C≠A.next->(A.add b).get C=A.get C:=fun C hC=>(hn C).resolve_left fun e=>hC e.2
  rcases XS l (A.add b) (fun C hC=>by
   have hC:A.next+1<=C:=hC
   grind) B blk h with⟨j,h1,h2⟩|⟨h1,h2⟩
  ·have h1:B=A.next+1+j:=h1;exact .inl ⟨j+1,a0B,a0D⟩
  ·rcases hn B with⟨e,e2⟩|e
   ·simp_all
   grind
def YC(b:aE):Bool:=match b.obj with| .cells _=>true| .jV _ _=>true| .r9 _ _=>true| .own _=>true|_=>false
def Sq(ρ:a0g)(hp':List aE)(nob:Nat):Bool:=
 Nat.rec (motive:=fun _=>Bool) true (fun i ih=>bs ((match dP ρ i with|some x=>bs (Nat.beq x cK) false true|none=>false)&& (match dP hp' i with|some b=>YC b|none=>false)) ih false) nob
theorem Wz{ρ:a0g}{hp':List aE}:∀{nob:Nat},Sq ρ hp' nob=true->(∀i,i<nob->(∃x,ρ[i]? =some x/\x≠cK)/\∃b,hp'[i]? =some b)
 |0,_,i,h=>a0B
 |n+1,h,i,hi=>by
  have h':bs ((match dP ρ n with|some x=>bs (Nat.beq x cK) false true|none=>false)&& (match dP hp' n with|some b=>YC b|none=>false)) (Sq ρ hp' n) false=true:=h;rcases ax h' with⟨h1,h2⟩|⟨_,h2⟩
  ·rcases Nat.lt_succ_iff_lt_or_eq.1 hi with h3|rfl
   ·exact Wz h2 i h3
   ·rw[xf,fK,fK] at h1;obtain⟨h4,h5⟩:=h1;refine⟨?_,?_⟩
    ·split at h4
     ·rename_i x hx;refine⟨x,hx,?_⟩;rcases ax h4 with⟨_,e⟩|⟨e,_⟩
      ·cases e
      ·exact GU e
     ·cases h4
    grind
  ·cases h2
def z7(nob n:Nat)(ρ:a0g)(m:Nat):a0g:=iU (wu ρ nob) (xS (Nat.sub m nob) n)
def ai0(G:Nat)(sg:io)(ρ:a0g)(res:a0e)(A:AW):bp xM:=
 match R' G sg.nob (z7 sg.nob A.next ρ (bA sg.hp')) res sg.rv,Rp (wB G sg.nob (z7 sg.nob A.next ρ (bA sg.hp')) res) sg.hp' with
 |some v,some l=>some [(v,Cj (rY l sg.nob) (wE ρ (wu l sg.nob) A))]
 |_,_=>none
def ai1(l:List aE):Bool:=fq (fun b=>match b.obj with| .gM _ _ _=>false|_=>true) l
theorem aF2(hL:BN L){hp:List aE}{k:Nat}(h:ai1 hp=true):∀B blk,((nD hp).aw k L tape).get B=some blk-> ¬QD blk:=by
 intro B blk hb ⟨ks,c,tk,ho⟩;rcases y8 hb with⟨q1,q2⟩|⟨q1,q2⟩
 ·rcases hL B q1 with e1|⟨cs,es,e1,e2⟩<;>rw[q2] at e1
  ·cases e1
  grind
 ·have:=pn _ hp h blk (xu q2)
  grind
def Mb(L:a0l)(k:Nat)(S:List (Nat×io))(t:eL)(args:a0e)(A:AW):bp xM:=
 match t with
 | .rd _=>none
 | .fn f=>match A.tape with
  |[]=>none
  |sD::r0=>match sD.args with
   |[.tuple ⟨rl⟩,.tuple ⟨aN⟩]=>match bt0 rl with
    |none=>none
    |some ρ=>match nJ (kW (bA L) FZ) aN (A.pop r0) with
     |none=>none
     |some (us,A1)=>match A1.tape with
      |[]=>none
      |nd::r=>match nd.k,nd.res with
       | .tj g i,.tuple ⟨res⟩=>match dP S i with
        |none=>none
        |some (g',sg)=>bs (nF sD.k (.own 1)&&Nat.beq g f&&Nat.beq g' f&&kS us nd.args&&G6 (bA L) ρ aN A1 sg.args args&&Br L (nD sg.hp) ρ aN .nil A1&&Sq ρ sg.hp' sg.nob&&ai1 sg.hp&&Nat.blt A1.next cK&&Nat.blt (Nat.add (bA L) (bA sg.hp')) (Nat.pow 2 k))
         (ai0 (bA L) sg ρ res (A1.pop r)) none
       |_,_=>none
   |_=>none
def Lc(P:Program)(LL:World->Prop)(k:Nat)(L:a0l)(S:List (Nat×io))(δ:a0j)(nd:Node):Prop:=
 match nd.k,nd.res with
 | .tj g i,.tuple ⟨res⟩=>∃sg ds cF,S[i]? =some (g,sg)/\aI (aZ δ) nd.args=some ds/\aI (eH δ) res=some cF/\Az P LL k L g sg ds cF
 |_,_=>False
section
variable(ok:E.Ok P)(hG:E.G=⟨L.length,Q,LL⟩)(hL:BN L){k:Nat}{S:List (Nat×io)}
theorem aM6(h1:∀i,i<nob->∃x,ρ[i]? =some x/\x≠cK)(h2:nob<=m):(z7 nob n ρ m).length=m/\∀(j x:Nat),(z7 nob n ρ m)[j]? =some x->x=EI nob n ρ j:=by
 have hl:nob<=ρ.length:=by
  cases nob with
  |zero=>omega
  |succ q=>
   grind
 unfold z7;rw[mF,OR];have hm:Nat.sub m nob=m - nob:=rfl;refine⟨by grind [xa,xz,X1],fun j x h=> ?_⟩;unfold EI;by_cases hj:j<nob
 ·grind
 ·rw[xq a0D,xz,show min nob ρ.length=nob by omega] at h;rw[if_neg hj,X2 _ _ _ _ h]
include ok hG hL in
theorem aX0(hC:∀δ nd g i,nd.k= .tj g i->E.G.Q δ nd->Lc P LL k L S δ nd):lE P E (Mb L k S):=by
 intro w0 t args A bo β w args' h inv oM;unfold Mb at h;split at h
 ·cases h
 ·rename_i f;split at h
  ·cases h
  ·rename_i sD r0 ht0;split at h
   ·rename_i rl aN dV;split at h
    ·cases h
    ·rename_i ρ hρ;split at h
     ·cases h
     ·rename_i us A1 lT;split at h
      ·cases h
      ·rename_i nd r ht1;split at h
       ·rename_i g i res hk hr;split at h
        ·cases h
        ·rename_i g' sg hS;replace h:=ax h;rcases h with⟨hb,h⟩|⟨_,h⟩
         ·simp only [xf] at hb;obtain⟨⟨⟨⟨⟨⟨⟨⟨⟨b1,b2⟩,b3⟩,b4⟩,b5⟩,b6⟩,b7⟩,b10⟩,b8⟩,b9⟩:=hb;rw[fK] at hS;have e2:=xb b2;have e3:=xb b3;subst e2;subst e3;have e4:=mB _ _ b4;rw[du] at b5;have Nn:=Wz b7;have bk:A1.next<cK:=xh b8;have EV:L.length+sg.hp'.length<2^k:=by
           have:=xh b9;rw[du,du] at this;exact this
          have ai8:=inv.pop (r:=r0) (fun x hx=>a0D);have rn:∀aH,β.d=aH.d->Inv w0 E.G aH A1 w->∃ds cF,aI (aZ aH.d) us=some ds/\aI (eH aH.d) res=some cF/\Az P LL k L g' sg ds cF:=fun aH hd i1=>by
           have hq:=hC _ nd g' i hk (i1.dJ nd a0D)
           grind [Lc,hk]
          have hn:E.G.n=bA L:=by rw[hG,du]
          obtain⟨βq,iq,gq,_⟩:=PZ (w0:=w0) (w:=w) (G:=E.G) (fun v A u A' β h i=>we ok FZ v A u A' β h i) aN _ us A1 β a0D ai8;obtain⟨ds,cF,q2,q3,q4⟩:=rn βq gq.d.symm iq;obtain⟨aH,j1,g1,i1,hI,n1,_⟩:=P7 ok hG hL lT ai8 (ds1:=ds) (by grind [gq.d]) b6 k;have vG:β.grow aH A.next:=g1;have n1':A1.next=A.next:=n1;have qW:=inv.gC vG;have aF:aI (eH aH.d) res=some cF:=by rw[g1.d,<-gq.d];exact q3
          have hLw:=inv.laid ok;rw[hG] at j1 hLw i1;obtain⟨j2,hw2⟩:=(j1.T5 (Q':=fun _ _=>True) rfl).reX (G:=G0 L LL) hLw (aF2 hL b10);have bk3:aX (pE L.length ρ aH fun c=>ds[c]?) sg.args args':=by
           obtain⟨k1,k2⟩:=JA hI i1.Bg b5;refine⟨k1.trans oM.1,fun i a v' ha gz=> ?_⟩;have hi:i<args.length:=by rw[<-k1];exact(xe.1 ha).1
           exact Gi hI i1.Bg (k2 i a _ ha (xc hi)) ((oM.2 i _ v' (xc hi) gz).mono qW)
          refine(q4 w _ args' j2 rfl (bk3.jT hw2)).mono fun en w' Hw=> ?_
          obtain⟨v,β',rfl,ic,hv,Ej,hz,kK,hxx⟩:=Hw;unfold ai0 at h;split at h
          ·rename_i u l hu hl;cases h;have j4:(A1.pop r).next=A1.next:=rfl;rw[du] at hu hl;have fj:=Wc hl;have aK:sg.nob<=sg.hp'.length:=by
            by_cases h0:sg.nob=0
            ·omega
            ·grind
           rw[du] at hu fj;have CF:=aM6 (n:=(A1.pop r).next) (ρ:=ρ) (fun i hi=>(Nn i hi).1) aK;unfold Br at b6;rw[du] at b6;simp only [xf] at b6;obtain⟨⟨⟨_,c2⟩,_⟩,c4⟩:=b6;obtain⟨aD,wS⟩:=N1 c2;have dj:=N0 c4;have i1p:Inv w0 ⟨L.length,Q,LL⟩ aH (A1.pop r) w:=i1.pop (fun x hx=>a0D);obtain⟨m1,m2,m3⟩:=Inv.merge (k:=k) (ρ:=ρ) (nob:=sg.nob) (hp':=sg.hp') (δ:=fun c=>ds[c]?) (A2:=Cj (rY l sg.nob) (wE ρ (wu l sg.nob) (A1.pop r))) (res:=res) (qs:=z7 sg.nob (A1.pop r).next ρ sg.hp'.length) i1p (fun i x hx=>by
            have hj:i<(nD sg.hp).hp.length:=by rw[aD];exact(xe.1 hx).1
            rcases wS i _ x (xc hj) hx with⟨e,_⟩|⟨_,e,blk,e2,_⟩
            ·exact .inl e
            ·exact .inr ⟨e,blk,e2⟩) (fun i j x a b c=>dj i j x a b c) (fun i hi=>(Nn i hi).1) ic hxx (fun B hB=>Ej B hB) hz
            (fun c rr hc=>by
             have bF:c<cF.length:=by rw[pd aF];exact(xe.1 hc).1
             exact⟨cF[c],kK c _ (xc bF),ng aF (xc bF) hc⟩)
            CF aK
            (fun B blk hB=>by
             have lm:∀(i x:Nat),ρ[i]? =some x->x≠cK->x<A1.next:=fun i x hx bq=>by
              have hj:i<(nD sg.hp).hp.length:=by rw[aD];exact(xe.1 hx).1
              rcases wS i _ x (xc hj) hx with⟨e,_⟩|⟨_,e,blk,e2,_⟩
              ·grind
              grind [Nat.lt_of_not_le,i1.cW]
             have jJ:∀C b,(wE ρ (wu l sg.nob) (A1.pop r)).get C=some b->C<A1.next:=fun C b hC=>by
              rcases O2 _ _ _ _ _ hC with⟨i,h1,h2,_⟩|⟨_,h2⟩
              ·grind
              ·exact Nat.lt_of_not_le fun iL=>by rw[show(A1.pop r).get C=A1.get C from rfl,i1.cW C iL] at h2;cases h2
             have eI:(wE ρ (wu l sg.nob) (A1.pop r)).next=A1.next:=(Dg _ _ _).1;have aW:l.length=sg.hp'.length:=fj.1.symm;rcases XS _ _ (fun C hC=>by
              cases hq:(wE ρ (wu l sg.nob) (A1.pop r)).get C with
              |none=>rfl
              |some b=>grind) B blk hB with⟨j,h1,h2⟩|⟨h1,h2⟩
             ·rw[Pf,List.getElem?_drop] at h2;have hj:sg.nob+j<l.length:=(xe.1 h2).1;have ja:sg.nob+j<sg.hp'.length:=a0B
              have sx:sg.nob+j<(z7 sg.nob (A1.pop r).next ρ sg.hp'.length).length:=by rw[CF.1];exact ja
              refine .inl ⟨sg.nob+j,_,?_,xc ja,fj.2 _ _ _ (xc ja) h2⟩;have e1:=xc sx;have e2:=CF.2 _ _ e1;rw[e1,e2];unfold EI
              grind
             ·rcases O2 _ _ _ _ _ h2 with⟨i,h3,h4,h5⟩|⟨h3,h4⟩
              ·rw[OR] at h5;have hi0:=(xe.1 h5).1;rw[xz] at hi0;have hi:i<sg.nob:=a0B
               rw[List.getElem?_take,if_pos hi] at h5;have ja:i<sg.hp'.length:=a0B
               have sx:i<(z7 sg.nob (A1.pop r).next ρ sg.hp'.length).length:=by rw[CF.1];exact ja
               refine .inl ⟨i,_,?_,xc ja,fj.2 _ _ _ (xc ja) h5⟩;have e1:=xc sx;have e2:=CF.2 _ _ e1;rw[e1,e2];unfold EI
               grind
              grind)
            (by
             grind [JL,Dg,Pf,List.length_drop])
            (fun x hx=>by
             grind [JL,Dg]) EV
           refine⟨_,xn,_,v,rfl,aK6 m3 hu hv,?_,?_,?_⟩
           ·grind
           ·have m2':aH.grow _ A1.next:=m2;rw[n1'] at m2';exact af.iP vG m2' (xk _)
           ·show A.next<=(Cj _ _).next
            grind [JL,Dg]
          ·cases h
         ·cases h
       ·cases h
   ·cases h
end
def Cf(n:Nat):Nat->List xM:=Nat.rec (motive:=fun _=>Nat->List xM) (fun _=>[]) (fun _ ih m=> .chan (some (Nat.succ m))::ih (Nat.succ m)) n
theorem XI{δ:a0j}:∀(n m:Nat) (kd:a0d),kd.length=n->(∀(i:Nat) (d:D),kd[i]? =some d->δ (m+i)=some d/\d.cell=true)->aI (eH δ) (Cf n m)=some kd
 |0,m,kd,hl,h=>by rw[xA hl];rfl
 |n+1,m,[],hl,h=>by simp at hl
 |n+1,m,d::kd,hl,h=>by
  show(match eH δ (.chan (some (m+1))),aI (eH δ) (Cf n (m+1)) with|some x,some r=>some (x::r)|_,_=>none)=_;rw[XI n (m+1) kd a0D (fun i d hi=>by
   have:=h (i+1) d a0D
   grind)]
  obtain⟨h1,h2⟩:=h 0 d rfl;have:eH δ (.chan (some (m+1)))=some d:=by
   show(δ m).bind _=_;rw[show δ m=some d from h1];show(if d.cell then some d else none)=some d;rw[h2];rfl
  rw[this]
def qC(nk:Nat)(env:a0d)(left:a0b)(i:Nat):Option (List D):=
 match left[i]? with
 |some [.agg kd,v]=>if kd.length=nk then some (env++(kd++[v,.sl (left.eraseIdx i)])) else none
 |_=>none
theorem aw1{i:Nat}{e:a0d}(h:qC nk env left i=some e):∃kd v,left[i]? =some [.agg kd,v]/\kd.length=nk/\e=env++(kd++[v,.sl (left.eraseIdx i)]):=by
 unfold qC at h
 grind
def aa9(E:au)(A:AW)(R m nk a:Nat):Option AW:=
 match A.get R with
 |some ⟨.Bq B (.chan (some (x+1))) (.chan (some (y+1))) false,es,ex,false,ty⟩=>match A.get B with
  |some ⟨.jV ks (.chan (some (x'+1))),_,_,_,_⟩=>bs (Nat.beq x x'&&Nat.beq y a&&Nat.beq (bA ks) nk&&Nat.ble E.G.n R) (some (A.put R (some ⟨.qa B (.chan (some (x+1))) (.chan (some (Nat.add m (Nat.add nk 1)+1))) [.agg ⟨Cf nk m⟩,.chan (some (Nat.add m nk+1))],es,ex,false,ty⟩))) none
  |_=>none
 |_=>none
def ab0(E:au)(A:AW)(R a:Nat):Option AW:=
 match A.get R with
 |some ⟨.Bq B c (.chan (some (y+1))) true,es,ex,false,ty⟩=>bs (Nat.beq y a&&Nat.ble E.G.n R) (some (A.put R (some ⟨.qa B c (.chan (some (y+1))) [],es,ex,false,ty⟩))) none
 |_=>none
def Rj(E:au)(sq:a0c)(call:eL->a0e->AW->bp xM)(n K k:Nat)(L:a0l)(T T1 T2:kg)(nob m nk a ti:Nat)(lL lK:a0g)(mM c8 mL gO:a0e)(td:List Item):a0A:=
 match td with
 | .code (.seq (.region _ ⟨ops⟩ false) rest)::kk=>match tz E sq call n ops ops (o8 K T.tm) (T.aw k L []) with
  |some [p1,p2]=>match(o8 K T.tm).get J ti with
   | .pointer (some ⟨R,0,none⟩)=>match aa9 E (p1.2.pop []) R m nk a,ab0 E (p2.2.pop []) R a with
    |some A1,some A2=>match wT L T1 nob lL mM c8 (.code rest::kk) p1.1 A1,wT L T2 nob lK mL gO (.code rest::kk) p2.1 A2 with
     |some [t1],some [t2]=>some [t1,t2]
     |_,_=>none
    |_,_=>none
   |_=>none
  |_=>none
 |_=>none
theorem YX{T:kg}{fr:Fr}{A:AW}{l:List (List Item)}(h:wT L T nob ρ aN us td fr A=some l):l=[td]:=by
 unfold wT at h;split at h
 ·rcases ax h with⟨_,h⟩|⟨_,h⟩<;>cases h;rfl
 ·cases h
def aft(td:List Item):List Item:=match td with| .code (.seq _ r)::k=> .code r::k|td=>td
section
variable{sq:a0c}(ok:E.Ok P)(aR:E.Seq P sq)(hG:E.G=⟨L.length,Q,LL⟩)(hL:BN L)
include ok aR hG hL in
theorem aE6{call:eL->a0e->AW->bp xM}(hc:lE P E call){f:FuncId}{K k:Nat}{sg:io}{t1 t2:List Item}{T T1 T2:kg}{a ti:Nat}{lL lK:a0g}{mM c8 mL gO:a0e}
 (aM:Rj E sq call n K k L T T1 T2 sg.nob m nk a ti lL lK mM c8 mL gO td=some [t1,t2]) (Mr:sg.nob<=T.hp.length) {ds out:a0d} (hm:ds.length=m)
 (uY:ds[a]? =some (.sl [])->∃pV,aI (aZ (fun c=>ds[c]?)) gO=some pV/\u9 P E f n K k L sg t2 T2 pV out)
 (bv1:∀(left:a0b) (i:Nat),ds[a]? =some (.sl left)->i<left.length->∃env ds1,qC nk ds left i=some env/\aI (aZ (fun c=>env[c]?)) c8=some ds1/\u9 P E f n K k L sg t1 T1 ds1 out):u9 P E f n K k L sg td T ds out:=by
 intro w0 w β b cs a0 FM hb FN inv hf hd;unfold Rj at aM;split at aM;rotate_left
 ·cases aM
 rename_i id ops rest kk;split at aM;rotate_left
 ·cases aM
 rename_i p1 p2 bE2;split at aM;rotate_left
 ·cases aM
 rename_i R Nk;split at aM;rotate_left
 ·cases aM
 rename_i A1 A2 nQ gf;split at aM;rotate_left
 ·cases aM
 rename_i s1 s2 js bF;cases aM;have e1:=YX js;have e2:=YX bF;cases e1;cases e2;have IM:(Code.region id ⟨ops⟩ false).wpIn (kw b.roundOf) 0 P (fun e a' w'=>e= .normal/\pw w0 E.G n β (T.aw k L []) a0.defers [p1,p2] a' w') a0 w:=
  wpIn_region_list (A9 ok aR hc ops _ _ _ β a0 w _ bE2 hf inv rfl (fun a' w' hp=>⟨rfl,hp⟩))
 obtain⟨e,a1,w1,⟨rfl,p,hp,aH,g1,g2,g3,g4,g5⟩,Ii⟩:=IM b (.code rest::kk) cs rfl trivial (Ri _ _);have Be:Steps P (lone (b.atR a0 (.code (.seq (.region id ⟨ops⟩ false) rest)::kk)) cs w) (lone (b.atR a1 (.code rest::kk)) cs w1):=Steps.trans (.one stepR_seq) (StepsIn.steps Ii);have j4:L.length+sg.nob<=(T.aw k L []).next:=by rw[yT];omega
 have FB:∃l,aH R=some l:=by
  have h1:=hf.2 ti;rw[Nk] at h1;generalize a0.tmps.getD ti undef=v' at h1;cases h1 with
  |ptr _ _ l hl=>grind [trans,g3.f,inv.fI]
 obtain⟨l,FB⟩:=FB;have An:∀c,aH.d c=ds[c]? :=fun c=>by rw[g3.d,hd]
 have hEG:(⟨E.G.n,Q,E.G.L⟩:GP)=E.G:=by rw[hG]
 simp only [xG,List.not_mem_nil,or_false] at hp;rcases hp with rfl|rfl
 ·
  unfold aa9 at nQ;split at nQ;rotate_left
  ·cases nQ
  rename_i B x y es ex ty I2;split at nQ;rotate_left
  ·cases nQ
  rename_i ks x' es2 ym M5 qj Nu;rcases ax nQ with⟨eE,nQ⟩|⟨_,nQ⟩;rotate_left
  ·cases nQ
  cases nQ;simp only [xf] at eE;obtain⟨⟨⟨b1,b2⟩,b3⟩,b4⟩:=eE;obtain rfl:=xb b1;obtain rfl:=xb b2;have eJ:ks.length=nk:=by rw[<-du];exact xb b3
  have UY:=xh b4;obtain⟨vA,lb,rows,left,seen,h1,h2,h3,h4,h5⟩:=g2.cont R _ l I2 FB;rcases h5 with⟨e,_⟩|⟨_,i,j,row,q1,q2,q3,q4⟩
  ·cases e
  obtain⟨es',ck,Lj,r1,r2,r3,r4,r5⟩:=g2.cont B _ lb Nu h1;rw[h2] at r2;cases r2;have UI:ds[y]? =some (.sl left):=by
   obtain⟨d,ly,dY⟩:=xr.1 (show(aH.d y).bind (fun x=>if x.cell then some x else none)=_ from h3);split at dY<;>cases dY
   rw[<-An];exact ly
  obtain⟨env,ds1,u1,u2,u3⟩:=bv1 left i UI (xe.1 q2).1;obtain⟨kd,v,v1,v2,rfl⟩:=aw1 u1;rw[q2] at v1;cases v1;have fV:j<es'.length:=by rw[<-r3.1];exact(xe.1 q1).1
  obtain⟨kd0,vs,v0,t1,t2,t3,t4,t5⟩:=r3.2 j _ _ q1 (xc fV);cases t1;have FE:∀(i:Nat) (d:D),kd[i]? =some d->d.cell=true:=by
   have:∀(ks:a0u) (kd:a0d) (vs:a0e),fC ks kd=some vs->∀(i:Nat) (d:D),kd[i]? =some d->d.cell=true:=by
    intro ks
    induction ks with
    |nil=>intro kd vs h i d hi;obtain⟨rfl,_⟩:=yL h;simp at hi
    |cons k ks ih=>
     intro kd vs h i d hi;obtain⟨m,a',tO,rfl,rfl,h1⟩:=yE h;cases i with
     |zero=>simp at hi;subst hi;rfl
     |succ i=>grind
   exact this ks kd vs t2
  let δ:a0j:=fun c=>(ds++(kd++[v,.sl (left.eraseIdx i)]))[c]?
  have Fv:∀(c:Nat) (d:D),aH.d c=some d->δ c=some d:=fun c d h=>by
   grind
  obtain⟨mO,CC⟩:=g2.M6 (δ:=δ) Fv (Q:=Q) (r:=[]) (fun nd h=>by cases h);rw[hEG] at mO;have ao:∀(t:Nat) (d:D),(kd++[v,.sl (left.eraseIdx i)])[t]? =some d->δ (m+t)=some d:=fun t d h=>by
   grind
  have FC:kd.length=nk:=v2;have Mx:aI (iA δ) [.agg ⟨Cf nk m⟩,.chan (some (Nat.add m nk+1))]=some [.agg kd,v]:=by
   have e1:iA δ (.agg ⟨Cf nk m⟩)=some (.agg kd):=by
    show(aI (eH δ) (Cf nk m)).map D.agg=_;rw[XI nk m kd FC (fun i d hi=>⟨ao i d a0D,FE i d hi⟩)];rfl
   have e2:iA δ (.chan (some (Nat.add m nk+1)))=some v:=by
    show(δ (m+nk)).bind _=_;rw[ao nk v a0D];show(if v.cell then some v else none)=some v;rw[t4];rfl
   unfold aI;rw[e1];unfold aI;rw[e2];rfl
  have bG0:aZ δ (.chan (some (Nat.add m (Nat.add nk 1)+1)))=some (.sl (left.eraseIdx i)):=by
   show(δ (m+(nk+1))).bind _=_;rw[ao (nk+1) _ (by rw[xq a0B,show nk+1 - kd.length=1 by omega];rfl)];rfl
  have SM:(p.2.pop []).get R=_:=I2;have H7:=mO.write R l _ ⟨.qa B (.chan (some (x+1))) (.chan (some (Nat.add m (Nat.add nk 1)+1))) [.agg ⟨Cf nk m⟩,.chan (some (Nat.add m nk+1))],es,ex,false,ty⟩ SM FB UY ⟨rfl,rfl,rfl,xk _,fun _ _ _=>rfl⟩ rfl (by
   refine⟨vA,lb,rows,left.eraseIdx i,seen++[j],q4,h1,my Fv h2,bG0,q3.symm,.inr ⟨seen,j,[.agg kd,v],rfl,q1,Mx⟩⟩)
  have BA:({β with d:=δ}:af).grow {aH with d:=δ} (T.aw k L []).next:=⟨g3.f,g3.z,g3.o,rfl,g3.x⟩;exact Pj ok hG hL js FM hb (g5.trans FN) H7 (bU.jT CC g1) Be BA j4 g4 u2 rfl u3
 ·
  unfold ab0 at gf;split at gf;rotate_left
  ·cases gf
  rename_i B c y es ex ty I2;rcases ax gf with⟨eE,gf⟩|⟨_,gf⟩;rotate_left
  ·cases gf
  cases gf;simp only [xf] at eE;obtain⟨b2,b4⟩:=eE;obtain rfl:=xb b2;have UY:=xh b4;obtain⟨vA,lb,rows,left,seen,h1,h2,h3,h4,h5⟩:=g2.cont R _ l I2 FB;rcases h5 with⟨_,aK,q4⟩|⟨e,_⟩;rotate_left
  ·cases e
  subst aK;have UI:ds[y]? =some (.sl []):=by
   obtain⟨d,ly,dY⟩:=xr.1 (show(aH.d y).bind (fun x=>if x.cell then some x else none)=_ from h3);split at dY<;>cases dY
   rw[<-An];exact ly
  obtain⟨pV,u2,u3⟩:=uY UI;obtain⟨mO,CC⟩:=g2.M6 (δ:=aH.d) (fun _ _ h=>h) (Q:=Q) (r:=[]) (fun nd h=>by cases h);rw[hEG] at mO;have SM:(p.2.pop []).get R=_:=I2;have H7:=mO.write R l _ ⟨.qa B c (.chan (some (y+1))) [],es,ex,false,ty⟩ SM FB UY ⟨rfl,rfl,rfl,xk _,fun _ _ _=>rfl⟩ rfl (by
   refine⟨vA,lb,rows,[],seen,q4,h1,h2,h3,h4,.inl rfl⟩)
  have BA:({β with d:=aH.d}:af).grow {aH with d:=aH.d} (T.aw k L []).next:=⟨g3.f,g3.z,g3.o,rfl,g3.x⟩;have u2':aI (aZ aH.d) gO=some pV:=by rw[show aH.d=fun c=>ds[c]? from funext An];exact u2
  exact Pj ok hG hL bF FM hb (g5.trans FN) H7 (bU.jT CC g1) Be BA j4 g4 u2' rfl u3
end
inductive DT where
 |op (k:NK) (args:a0e) (t:DT)
 |aV (k:NK) (args:a0e) (cT:List (Option xM)) (t e:DT)
 |br (k:NK) (args:a0e) (t e:DT)
 |sw (k:NK) (args:a0e) (v:xM) (t e:DT)
 |note (nd:Node) (t:DT)
 |call (f i:Nat) (us:a0e) (cT:List (Option xM)) (t e:DT)
 |jump (h m:Nat) (ρ:a0g) (aN us:a0e)
 |ret (ρ:a0g) (aN us:a0e)
 |stop
 |pick (nk a ti h1 h2:Nat) (lL:a0g) (mM c8:a0e) (lK:a0g) (mL gO:a0e)
abbrev cd(n:Nat):xM:= .chan (some (n+1))
def sY(n:Nat):List (Option xM)->List xM
 |[]=>[]
 |none::l=>cd n::sY (n+1) l
 |some v::l=>v::sY (n+1) l
def y7(d:D)(v:xM):Bool:=match d,v with| .bool b,.bool b'=>b==b'| .int k n,.int k' n'=>decide (k=k'/\n=n')|_,_=>false
abbrev tt:a0t:=some (.bool true)
abbrev ff:a0t:=some (.bool false)
abbrev no:a0t:=none
def jx:List (Option xM)->List D->Bool
 |[],[]=>true
 |none::l,d::ds=>d.cell&&jx l ds
 |some v::l,d::ds=>y7 d v&&jx l ds
 |_,_=>false
def lk(env:a0d):a0j:=fun c=>env[c]?
def Rk(nk:Nat)(g:List D->Option (List D))(env:a0d)(left:a0b):Option (List D):=by
 classical
 exact match(qC nk env left 0).bind g with
 |some out=>if∀i,i<left.length->(qC nk env left i).bind g=some out then some out else none
 |none=>none
theorem AB{g:List D->Option (List D)}:left≠[]->(Rk nk g env left=some out↔∀i,i<left.length->(qC nk env left i).bind g=some out):=fun bq=>by
 have h0:0<left.length:=List.length_pos_iff.2 bq;unfold Rk
 grind
def bK(call:a0a)(jump:a0a):DT->List D->Option (List D)
 | .op k args t,env=>(aI (bR (lk env)) args).bind fun ds=>(aL k ds).bind fun d=>if d.cell=true then bK call jump t (env++[d]) else none
 | .aV k args cT t e,env=>(aI (bR (lk env)) args).bind fun ds=>match aL k ds with
  |some (.agg l)=>if jx cT l=true then bK call jump t (env++l) else bK call jump e env
  |_=>none
 | .br k args t e,env=>(aI (bR (lk env)) args).bind fun ds=>match aL k ds with
  |some (.bool true)=>bK call jump t env
  |some (.bool false)=>bK call jump e env
  |_=>none
 | .sw k args v t e,env=>(aI (bR (lk env)) args).bind fun ds=>match aL k ds with
  |some d=>if y7 d v=true then bK call jump t env else bK call jump e env
  |none=>none
 | .note _ t,env=>bK call jump t env
 | .call _ i us cT t e,env=>(aI (aZ (lk env)) us).bind fun ds=>(call i ds).bind fun cF=>if jx cT cF=true then bK call jump t (env++cF) else bK call jump e env
 | .jump h _ _ _ us,env=>(aI (aZ (lk env)) us).bind (jump h)
 | .ret _ _ us,env=>aI (aZ (lk env)) us
 | .stop,_=>none
 | .pick nk a _ h1 h2 _ _ c8 _ _ gO,env=>match lk env a with
  |some (.sl left)=>if left=[] then(aI (aZ (lk env)) gO).bind (jump h2) else Rk nk (fun e=>(aI (aZ (lk e)) c8).bind (jump h1)) env left
  |_=>none
inductive RT where
 |lf (x:a0A)
 |bn (a b:RT)
section
variable(pJ:List Node->Nat->Nat->List Nat->List xM->List xM->Option (List (List Item)))(ret:List Node->List Nat->List xM->List xM->a0A)(pk:List Node->Nat->Nat->Nat->Nat->Nat->Nat->List Nat->List xM->List xM->List Nat->List xM->List xM->a0A)
def ek(x:α):α:=x
def uQ(l:List Node)(r:List Node):List Node:=List.rec (motive:=fun _=>List Node->List Node) (fun r=>r) (fun x _ ih r=>ek (ih (x::r))) l r
def qJ(t:DT):Nat->List Node->RT:=
 DT.rec (motive:=fun _=>Nat->List Node->RT)
  (fun k args _ ih n bJ=>D3 n fun n=>ih (Nat.succ n) (⟨k,args,cd n⟩::bJ))
  (fun k args cT _ _ kI dT n bJ=> .bn (kI (Nat.add n (bA cT)) (⟨k,args,.agg ⟨sY n cT⟩⟩::bJ)) (dT n bJ))
  (fun k args _ _ kI dT n bJ=> .bn (kI n (⟨k,args,.bool true⟩::bJ)) (dT n (⟨k,args,.bool false⟩::bJ)))
  (fun k args v _ _ kI dT n bJ=> .bn (kI n (⟨k,args,v⟩::bJ)) (dT n bJ))
  (fun nd _ ih n bJ=>ih n (nd::bJ))
  (fun f i us cT _ _ kI dT n bJ=> .bn (kI (Nat.add n (bA cT)) (⟨.tj f i,us,.tuple ⟨sY n cT⟩⟩::bJ)) (dT n bJ))
  (fun h m ρ aN us _ bJ=> .lf (pJ (uQ bJ []) h m ρ aN us))
  (fun ρ aN us _ bJ=> .lf (ret (uQ bJ []) ρ aN us))
  (fun _ _=> .lf none)
  (fun nk a ti h1 h2 lL mM c8 lK mL gO n bJ=> .lf (pk (uQ bJ []) n nk a ti h1 h2 lL mM c8 lK mL gO)) t
def qP(td:Nat->List Item)(t:DT):RT:=
 DT.rec (motive:=fun _=>RT)
  (fun _ _ _ ih=>ek ih) (fun _ _ _ _ _ a b=> .bn a b) (fun _ _ _ _ a b=> .bn a b) (fun _ _ _ _ _ a b=> .bn a b) (fun _ _ ih=>ih) (fun _ _ _ _ _ _ a b=> .bn a b) (fun h _ _ _ _=> .lf (some [td h])) (fun _ _ _=> .lf (some [[]])) (.lf none) (fun _ _ _ h1 h2 _ _ _ _ _ _=> .lf (some [td h1,td h2])) t
end
theorem Kd:∀(l r:List Node),uQ l r=l.reverse++r
 |[],r=>rfl
 |x::l,r=>by show uQ l (x::r)=_;rw[Kd l (x::r)];simp
def GX(k:NK):Bool:=match k with| .call _=>false| .tj _ _=>false| .mj _=>false| .own _=>false|_=>true
def mD(S:List (Nat×io)):DT->Bool
 | .op k _ t=>GX k&&mD S t
 | .aV k _ _ t e=>GX k&& (mD S t&&mD S e)
 | .br k _ t e=>GX k&& (mD S t&&mD S e)
 | .sw k _ _ t e=>GX k&& (mD S t&&mD S e)
 | .note nd t=>(match nd.k with| .own _=>true|_=>false)&&mD S t
 | .call f i _ _ t e=>(match S[i]? with|some (f',_)=>f==f'|none=>false)&& (mD S t&&mD S e)
 |_=>true
theorem bP.jT{lM:a0j}(h:∀(c:Nat) (d:D),δ c=some d->lM c=some d)(hq:bP δ nd):bP lM nd:=by
 unfold bP at*;split at hq<;>first|trivial|exact hq.imp fun ds hq=>hq.imp fun d ⟨a,b,c⟩=>⟨sJ (fun v d=>Oh h) a,Wb h b,c⟩
def NQ(P:Program)(LL:World->Prop)(k:Nat)(L:a0l)(S:List (Nat×io))(δ:a0j)(nd:Node):Prop:=
 bP δ nd/\∀g i,nd.k= .tj g i->Lc P LL k L S δ nd
theorem NQ.jT{k:Nat}{S:List (Nat×io)}{lM:a0j}(h:∀(c:Nat) (d:D),δ c=some d->lM c=some d)(hq:NQ P LL k L S δ nd):NQ P LL k L S lM nd:=by
 refine⟨hq.1.jT h,fun g i hk=> ?_⟩;have:=hq.2 g i hk;unfold Lc at*;split at this
 ·obtain⟨sg,ds,cF,q1,q2,q3,q4⟩:=this;exact⟨sg,ds,cF,q1,sJ (fun v d=>my h) q2,sJ (fun v d=>N8 h) q3,q4⟩
 ·exact this.elim
theorem vZ(env l:a0d)(c:Nat)(d:D)(h:lk env c=some d):lk (env++l) c=some d:=by
 grind [lk,xw,xe]
theorem QC(env l:a0d)(i:Nat)(d:D)(h:l[i]? =some d):lk (env++l) (env.length+i)=some d:=by
 unfold lk
 grind
theorem Ye(h:δ n=some d)(hc:d.cell=true):eH δ (cd n)=some d:=by
 show(δ n).bind _=_
 grind
theorem aC8{v:xM}(h:y7 d v=true)(δ:a0j):eH δ v=some d:=by
 unfold y7 at h;split at h
 ·rename_i a b;obtain rfl:a=b:=by simpa using h
  rfl
 ·obtain⟨rfl,rfl⟩:=of_decide_eq_true h;rfl
 ·cases h
theorem az0{v:xM}(h:y7 d v=true)(δ:a0j):iA δ v=some d:=by
 unfold y7 at h;split at h
 ·rename_i a b;obtain rfl:a=b:=by simpa using h
  rfl
 ·obtain⟨rfl,rfl⟩:=of_decide_eq_true h;rfl
 ·cases h
theorem Jy{env:a0d}:∀{cT:List (Option xM)} {ds pre:a0d} {δ:a0j},jx cT ds=true->(∀(i:Nat) (d:D),ds[i]? =some d->δ (pre.length+i)=some d)->aI (eH δ) (sY pre.length cT)=some ds
 |[],[],_,_,_,_=>rfl
 |[],_::_,_,_,h,_=>by simp[jx] at h
 |none::l,[],_,_,h,_=>by simp[jx] at h
 |none::l,d::ds,pre,δ,h,hd=>by
  unfold jx at h;rw[xf] at h;have ih:=Jy (env:=env) (pre:=pre++[d]) (δ:=δ) h.2 (fun i x hx=>by
   have:=hd (i+1) x a0D
   grind)
  rw[xa] at ih;have h0:=hd 0 d rfl;show(match eH δ (cd pre.length),aI (eH δ) (sY (pre.length+1) l) with|some x,some r=>some (x::r)|_,_=>none)=_;rw[Ye h0 h.1]
  grind
 |some b::l,[],_,_,h,_=>by simp[jx] at h
 |some b::l,d::ds,pre,δ,h,hd=>by
  unfold jx at h;rw[xf] at h;have ih:=Jy (env:=env) (pre:=pre++[d]) (δ:=δ) h.2 (fun i x hx=>by
   have:=hd (i+1) x a0D
   grind)
  rw[xa] at ih;have ih':aI (eH δ) (sY (pre.length+1) l)=some ds:=ih;show(match eH δ b,aI (eH δ) (sY (pre.length+1) l) with|some x,some r=>some (x::r)|_,_=>none)=_;rw[ih',aC8 h.1]
theorem Wf:∀(cT:List (Option xM)) (ds:a0d),jx cT ds=true->ds.length=cT.length:=by
 intro cT
 induction cT with
 |nil=>grind [jx]
 |cons a cT ih=>
  intro ds h;cases ds with
  |nil=>grind [jx]
  |cons d ds=>
   cases a with
   |none=>unfold jx at h;grind
   |some b=>unfold jx at h;grind
theorem NQ.plain{kk:Nat}{S:List (Nat×io)}{r:xM}(hk:GX k=true)(h1:aI (bR δ) args=some ds)(h2:iA δ r=some d)(h3:aL k ds=some d):NQ P LL kk L S δ ⟨k,args,r⟩:=by
 refine⟨?_,fun g i e=> ?_⟩
 ·grind [bP]
 ·have e:k= .tj g i:=e;subst e;cases hk
theorem sI{P:Program}{LL:World->Prop}{kk:Nat}{L:a0l}{S:List (Nat×io)}{call jump:a0a}(ny:∀(i:Nat) (ds cF:a0d) (f:Nat) (sg:io),call i ds=some cF->S[i]? =some (f,sg)->Az P LL kk L f sg ds cF)
 {pJ:List Node->Nat->Nat->List Nat->List xM->List xM->Option (List (List Item))} {ret:List Node->List Nat->List xM->List xM->a0A} {pk:List Node->Nat->Nat->Nat->Nat->Nat->Nat->List Nat->List xM->List xM->List Nat->List xM->List xM->a0A} {td:Nat->List Item} {out:a0d}:
 ∀(t:DT) (env:a0d) (bJ:List Node),mD S t=true->qJ pJ ret pk t env.length bJ=qP td t->(∀nd∈bJ,NQ P LL kk L S (lk env) nd)->bK call jump t env=some out->
  ∃(tape:List Node) (l9:a0d),(∀(c:Nat) (d:D),lk env c=some d->lk l9 c=some d)/\(∀nd∈tape,NQ P LL kk L S (lk l9) nd)/\
   ((∃h m ρ aN us cF,pJ tape h m ρ aN us=some [td h]/\aI (aZ (lk l9)) us=some cF/\jump h cF=some out)\/(∃ρ aN us,ret tape ρ aN us=some [[]]/\aI (aZ (lk l9)) us=some out)\/∃nk a ti h1 h2 lL mM c8 lK mL gO,pk tape l9.length nk a ti h1 h2 lL mM c8 lK mL gO=some [td h1,td h2]/\bK call jump (.pick nk a ti h1 h2 lL mM c8 lK mL gO) l9=some out)
 | .op k args t,env,bJ,hn,hr,ha,he=>by
  unfold mD at hn;rw[xf] at hn;unfold bK at he;obtain⟨ds,h1,he⟩:=xr.1 he;obtain⟨d,h2,he⟩:=xr.1 he;split at he
  ·rename_i hc;have aD:(env++[d]).length=Nat.succ env.length:=by rw[xa];rfl
   have fG:D3 env.length (fun n=>qJ pJ ret pk t (Nat.succ n) (⟨k,args,cd n⟩::bJ))=qP td t:=hr;have cz:qJ pJ ret pk t (Nat.succ env.length) (⟨k,args,cd env.length⟩::bJ)=qP td t:=by rw[JK] at fG;exact fG
   rw[<-aD] at cz;obtain⟨tape,l9,g1,g2,g3⟩:=sI ny t (env++[d]) _ hn.2 cz (fun nd dj=>by
    rcases xG.1 dj with rfl|dj
    ·exact NQ.plain hn.1 (sJ (fun v d=>Oh (vZ env [_])) h1) (Ye (QC env [d] 0 d rfl) hc) h2
    ·exact(ha nd dj).jT (vZ env [d])) he
   exact⟨tape,l9,fun c x h=>g1 c x (vZ env [d] c x h),g2,g3⟩
  ·cases he
 | .aV k args cT t e,env,bJ,hn,hr,ha,he=>by
  unfold mD at hn;rw[xf,xf] at hn;unfold bK at he;obtain⟨ds,h1,he⟩:=xr.1 he;have cz:RT.bn (qJ pJ ret pk t (Nat.add env.length (bA cT)) (⟨k,args,.agg ⟨sY env.length cT⟩⟩::bJ)) (qJ pJ ret pk e env.length bJ)=RT.bn (qP td t) (qP td e):=hr;injection cz with r1 r2;split at he
  ·rename_i l h2;split at he
   ·rename_i hm;have aD:(env++l).length=Nat.add env.length (bA cT):=by rw[xa,Wf _ _ hm,du];rfl
    rw[<-aD] at r1;obtain⟨tape,l9,g1,g2,g3⟩:=sI ny t (env++l) _ hn.2.1 r1 (fun nd dj=>by
     rcases xG.1 dj with rfl|dj
     ·refine NQ.plain hn.1 (sJ (fun v d=>Oh (vZ env l)) h1) ?_ h2;show(aI (eH (lk (env++l))) (sY env.length cT)).map D.agg=some (D.agg l);rw[Jy (env:=env) (pre:=env) hm (fun i d hd=>QC env l i d hd)];rfl
     ·exact(ha nd dj).jT (vZ env l)) he
    exact⟨tape,l9,fun c x h=>g1 c x (vZ env l c x h),g2,g3⟩
   ·exact sI ny e env bJ hn.2.2 r2 ha he
  ·cases he
 | .br k args t e,env,bJ,hn,hr,ha,he=>by
  unfold mD at hn;rw[xf,xf] at hn;unfold bK at he;obtain⟨ds,h1,he⟩:=xr.1 he;have cz:RT.bn (qJ pJ ret pk t env.length (⟨k,args,.bool true⟩::bJ)) (qJ pJ ret pk e env.length (⟨k,args,.bool false⟩::bJ))=RT.bn (qP td t) (qP td e):=hr;injection cz with r1 r2;split at he
  ·rename_i h2;exact sI ny t env _ hn.2.1 r1 (fun nd dj=>by
    rcases xG.1 dj with rfl|dj
    ·exact NQ.plain hn.1 h1 rfl h2
    grind) he
  ·rename_i h2;exact sI ny e env _ hn.2.2 r2 (fun nd dj=>by
    rcases xG.1 dj with rfl|dj
    ·exact NQ.plain hn.1 h1 rfl h2
    grind) he
  ·cases he
 | .sw k args v t e,env,bJ,hn,hr,ha,he=>by
  unfold mD at hn;rw[xf,xf] at hn;unfold bK at he;obtain⟨ds,h1,he⟩:=xr.1 he;have cz:RT.bn (qJ pJ ret pk t env.length (⟨k,args,v⟩::bJ)) (qJ pJ ret pk e env.length bJ)=RT.bn (qP td t) (qP td e):=hr;injection cz with r1 r2;split at he
  ·rename_i d h2;split at he
   ·rename_i hv;exact sI ny t env _ hn.2.1 r1 (fun nd dj=>by
     rcases xG.1 dj with rfl|dj
     ·grind [NQ.plain,az0]
     grind) he
   ·exact sI ny e env bJ hn.2.2 r2 ha he
  ·cases he
 | .note sD t,env,bJ,hn,hr,ha,he=>by
  unfold mD at hn;rw[xf] at hn;unfold bK at he;exact sI ny t env (sD::bJ) hn.2 hr (fun nd dj=>by
   rcases xG.1 dj with rfl|dj
   ·have h1:=hn.1;split at h1
    ·rename_i x hk;refine⟨by grind [bP,hk],fun g i e=>a0D⟩
    ·cases h1
   grind) he
 | .call f i us cT t e,env,bJ,hn,hr,ha,he=>by
  unfold mD at hn;rw[xf,xf] at hn;unfold bK at he;obtain⟨ds,h1,he⟩:=xr.1 he;obtain⟨cF,h2,he⟩:=xr.1 he;have cz:RT.bn (qJ pJ ret pk t (Nat.add env.length (bA cT)) (⟨.tj f i,us,.tuple ⟨sY env.length cT⟩⟩::bJ)) (qJ pJ ret pk e env.length bJ)=RT.bn (qP td t) (qP td e):=hr;injection cz with r1 r2;split at he
  ·rename_i hm;have pR:cF.length=cT.length:=Wf _ _ hm;have aD:(env++cF).length=Nat.add env.length (bA cT):=by rw[xa,pR,du];rfl
   rw[<-aD] at r1;obtain⟨tape,l9,g1,g2,g3⟩:=sI ny t (env++cF) _ hn.2.1 r1 (fun nd dj=>by
    rcases xG.1 dj with rfl|dj
    ·refine⟨trivial,fun g j e=> ?_⟩;cases e;have h0:=hn.1;split at h0
     ·rename_i f' sg hS;have ef:f=f':=by simpa using h0
      subst ef;exact⟨sg,ds,cF,hS,sJ (fun v d=>my (vZ env cF)) h1,Jy (env:=env) (pre:=env) hm (fun i d hd=>QC env cF i d hd),ny i ds cF f sg h2 hS⟩
     ·cases h0
    ·exact(ha nd dj).jT (vZ env cF)) he
   exact⟨tape,l9,fun c d h=>g1 c d (vZ env cF c d h),g2,g3⟩
  ·exact sI ny e env bJ hn.2.2 r2 ha he
 | .jump h m ρ aN us,env,bJ,hn,hr,ha,he=>by
  unfold bK at he;obtain⟨cF,h1,h2⟩:=xr.1 he;have cz:RT.lf (pJ (uQ bJ []) h m ρ aN us)=RT.lf (some [td h]):=hr;injection cz with r1;refine⟨_,env,fun _ _ h=>h,fun nd dj=>ha nd ?_,.inl ⟨h,m,ρ,aN,us,cF,r1,h1,h2⟩⟩
  grind [Kd]
 | .ret ρ aN us,env,bJ,hn,hr,ha,he=>by
  unfold bK at he;have cz:RT.lf (ret (uQ bJ []) ρ aN us)=RT.lf (some [[]]):=hr;injection cz with r1;refine⟨_,env,fun _ _ h=>h,fun nd dj=>ha nd ?_,.inr (.inl ⟨ρ,aN,us,r1,he⟩)⟩
  grind [Kd]
 | .stop,env,bJ,hn,hr,ha,he=>by
  grind [bK]
 | .pick nk a ti h1 h2 lL mM c8 lK mL gO,env,bJ,hn,hr,ha,he=>by
  have cz:RT.lf (pk (uQ bJ []) env.length nk a ti h1 h2 lL mM c8 lK mL gO)=RT.lf (some [td h1,td h2]):=hr;injection cz with r1;refine⟨_,env,fun _ _ h=>h,fun nd dj=>ha nd ?_,.inr (.inr ⟨nk,a,ti,h1,h2,lL,mM,c8,lK,mL,gO,r1,he⟩)⟩
  grind [Kd]
structure Hd where
 td:List Item
 T:kg
 m:Nat
structure FD where
 f:FuncId
 n:Nat
 K:Nat
 rs:List ResultVar
 sg:io
 hs:List Hd
 rF:List DT
def exec(F:List FD)(X:a0a):Nat->Nat->a0a
 |0,_,_,_=>none
 |n+1,i,h,ds=>match F[i]? with
  |none=>X i ds
  |some fd=>match fd.hs[h]?,fd.rF[h]? with
   |some s,some t=>if ds.length=s.m then bK (fun j ds=>exec F X n j 0 ds) (fun h' ds=>exec F X n i h' ds) t ds else none
   |_,_=>none
section
variable(E:au)(sq:a0c)(call:eL->a0e->AW->bp xM)(bO:Nat->List Oper->Fr->AW->bp Fr)(aU k:Nat)(L:a0l)
def Sy(fd:FD)(s:Hd)(tape:List Node)(h m:Nat)(ρ:a0g)(aN us:a0e):a0A:=
 match dP fd.hs h with
 |some s'=>uP E sq call fd.n (bO fd.n) aa6 (wT L s'.T fd.sg.nob ρ aN us) aU m s.td (o8 fd.K s.T.tm) (s.T.aw k L tape)
 |none=>none
def ah8(fd:FD)(s:Hd)(tape:List Node)(ρ:a0g)(aN us:a0e):a0A:=
 uP E sq call fd.n (bO fd.n) (S5 E fd.rs L fd.sg ρ aN us) aa7 aU 0 s.td (o8 fd.K s.T.tm) (s.T.aw k L tape)
def aa5(fd:FD)(s:Hd)(tape:List Node)(n nk a ti h1 h2:Nat)(lL:a0g)(mM c8:a0e)(lK:a0g)(mL gO:a0e):a0A:=
 match tape with
 |[]=>bs (Nat.beq n s.m) (match dP fd.hs h1,dP fd.hs h2 with
  |some s1,some s2=>Rj E sq call fd.n fd.K k L s.T s1.T s2.T fd.sg.nob s.m nk a ti lL lK mM c8 mL gO s.td
  |_,_=>none) none
 |_::_=>none
def MZ(fd:FD)(h:Nat):List Item:=match dP fd.hs h with|some s=>s.td|none=>[]
def L7(S:List (Nat×io))(fd:FD)(s:Hd)(t:DT):Prop:=
 mD S t=true/\fd.sg.nob<=s.T.hp.length/\qJ (Sy E sq call bO aU k L fd s) (ah8 E sq call bO aU k L fd s) (aa5 E sq call k L fd s) t s.m []=qP (MZ fd) t
structure FOk (P:Program) (S:List (Nat×io)) (fd:FD):Prop where
 fn:∃fn c,P.funcs[fd.f]? =some fn/\fn.body=some c/\fn.ntmps=fd.n/\fn.results=⟨fd.rs⟩/\∃m,fd.hs[0]? =some ⟨[.code c],⟨wX fd.sg.args,fd.sg.hp⟩,m⟩
 len:fd.sg.args.length<=fd.n
 mj:∀(h:Nat) (s:Hd) (t:DT),fd.hs[h]? =some s->fd.rF[h]? =some t->L7 E sq call bO aU k L S fd s t
end
theorem aV5{sq:a0c}{call:eL->a0e->AW->bp xM}{bO:Nat->List Oper->Fr->AW->bp Fr}{aU k:Nat}{S:List (Nat×io)}{fd:FD}(n:Nat)(hl:fd.hs.length=n)(h:∀h,h<n->L7 E sq call bO aU k L S fd (fd.hs.getD h ⟨[],⟨[],[]⟩,0⟩) (fd.rF.getD h .stop)):
 ∀(h:Nat) (s:Hd) (t:DT),fd.hs[h]? =some s->fd.rF[h]? =some t->L7 E sq call bO aU k L S fd s t:=fun i s t hs ht=>by
 grind
section
variable{sq:a0c}(ok:E.Ok P)(aR:E.Seq P sq){k:Nat}{S:List (Nat×io)}(hG:E.G=⟨L.length,NQ P LL k L S,LL⟩)(hL:BN L)
include ok aR hG hL in
theorem GC{call:eL->a0e->AW->bp xM}(hc:lE P E call){bO:Nat->List Oper->Fr->AW->bp Fr}(kr:∀n,uF P E n (bO n)){aU:Nat}{F:List FD}{X:a0a}
 (hF:∀(i:Nat) (fd:FD),F[i]? =some fd->FOk E sq call bO aU k L P S fd/\S[i]? =some (fd.f,fd.sg)) (hX:∀(i:Nat) (ds cF:a0d) (f:Nat) (sg:io),X i ds=some cF->S[i]? =some (f,sg)->Az P LL k L f sg ds cF):
 ∀(n i:Nat),(∀(h:Nat) (ds out:a0d),exec F X n i h ds=some out->∀(fd:FD),F[i]? =some fd->∀(s:Hd),fd.hs[h]? =some s->u9 P E fd.f fd.n fd.K k L fd.sg s.td s.T ds out)/\
  ∀(ds out:a0d) (f:Nat) (sg:io),exec F X n i 0 ds=some out->S[i]? =some (f,sg)->Az P LL k L f sg ds out
 |0,i=>⟨fun h ds out e=>(by grind [exec]),fun ds out f sg e=>(by grind [exec])⟩
 |n+1,i=>by
  have key:∀(h:Nat) (ds out:a0d),exec F X (n+1) i h ds=some out->∀(fd:FD),F[i]? =some fd->∀(s:Hd),fd.hs[h]? =some s->u9 P E fd.f fd.n fd.K k L fd.sg s.td s.T ds out:=by
   intro h ds out e fd m4 s hs;unfold exec at e;rw[m4] at e;simp only at e;rw[hs] at e;split at e
   ·rename_i s' t ko ht;cases ko;split at e
    ·rename_i hm;obtain⟨Jh,hS⟩:=hF i fd m4;obtain⟨h1,h2,h3⟩:=Jh.mj h s t hs ht;rw[<-hm] at h3;obtain⟨tape,l9,g1,g2,g3⟩:=sI (P:=P) (LL:=LL) (kk:=k) (L:=L) (S:=S) (fun j ds cF f sg hj hSj=>(GC hc kr hF hX n j).2 ds cF f sg hj hSj) t ds [] h1 h3 (fun nd dj=>by cases dj) e;obtain⟨fn,c,f1,f2,f3,f4,f5⟩:=Jh.fn;rcases g3 with⟨h',m,ρ,aN,us,cF,r1,r2,r3⟩|⟨ρ,aN,us,r1,r2⟩|⟨nk,a,ti,oD,FR,lL,mM,c8,lK,mL,gO,r1,r2⟩
     ·unfold Sy MZ at r1;rw[fK] at r1;cases hh:fd.hs[h']? with
      |none=>grind
      |some s2=>
       rw[hh] at r1;exact aE7 ok aR hG hL hc (kr fd.n) r1 (fun o ho=>xy.1 ho) h2 (δ:=lk l9) (fun c d h=>g1 c d h) (fun nd dj=>g2 nd dj) r2 ((GC hc kr hF hX n i).1 h' cF out r3 fd m4 s2 hh)
     ·exact aM0 ok aR hG hL hc (kr fd.n) f1 f4 r1 h2 (δ:=lk l9) (fun c d h=>g1 c d h) (fun nd dj=>g2 nd dj) r2
     ·unfold aa5 MZ at r1;split at r1;rotate_left
      ·cases r1
      rcases ax r1 with⟨hb,r1⟩|⟨_,r1⟩;rotate_left
      ·cases r1
      have hl:=xb hb;have bH3:l9=ds:=by
       refine List.ext_getElem? fun c=> ?_
       by_cases hc:c<ds.length
       ·have h0:=xc hc;rw[h0];exact g1 c _ h0
       ·grind
      subst bH3;split at r1;rotate_left
      ·cases r1
      rename_i s1 s2 df cL;rw[df,cL] at r1;rw[fK] at df cL;unfold bK at r2;split at r2;rotate_left
      ·cases r2
      rename_i left By;have ZL:l9[a]? =some (.sl left):=By;refine aE6 ok aR hG hL hc r1 h2 hl (fun he=> ?_) (fun kz j he hi=> ?_)
      ·rw[ZL] at he;cases he;rw[if_pos rfl] at r2;obtain⟨pV,e1,e2⟩:=xr.1 r2;exact⟨pV,e1,(GC hc kr hF hX n i).1 FR pV out e2 fd m4 s2 cL⟩
      ·rw[ZL] at he;cases he;have bq:left≠[]:=fun e=>a0D
       rw[if_neg bq] at r2;have fB:=(AB bq).1 r2 j hi;obtain⟨bK0,e1,e2⟩:=xr.1 fB;obtain⟨ds1,e3,e4⟩:=xr.1 e2;exact⟨bK0,ds1,e1,e3,(GC hc kr hF hX n i).1 oD ds1 out e4 fd m4 s1 df⟩
    ·cases e
   ·cases e
  refine⟨key,fun ds out f sg e hS=> ?_⟩;cases m4:F[i]? with
  |none=>
   grind [exec]
  |some fd=>
   obtain⟨Jh,UU⟩:=hF i fd m4
   grind [aB8,Jh.fn,Jh.len]
end
theorem qy{c c' j j':a0a}(hc:∀i ds o,c i ds=some o->c' i ds=some o)(hj:∀i ds o,j i ds=some o->j' i ds=some o):
 ∀(t:DT) (env o:a0d),bK c j t env=some o->bK c' j' t env=some o
 | .op k args t,env,o,h=>by
  unfold bK at h⊢;obtain⟨ds,h1,h⟩:=xr.1 h;obtain⟨d,h2,h⟩:=xr.1 h;rw[h1,xB,h2,xB];split at h
  ·rename_i m5;rw[if_pos m5];exact qy hc hj t _ _ h
  ·cases h
 | .aV k args cT t e,env,o,h=>by
  unfold bK at h⊢;obtain⟨ds,h1,h⟩:=xr.1 h;rw[h1,xB];split at h
  ·rename_i l h2
   try rw[h2]
   split at h
   ·rename_i hm;simp only [if_pos hm];exact qy hc hj t _ _ h
   ·rename_i hm;simp only [if_neg hm];exact qy hc hj e _ _ h
  ·cases h
 | .br k args t e,env,o,h=>by
  unfold bK at h⊢;obtain⟨ds,h1,h⟩:=xr.1 h;rw[h1,xB];split at h
  ·rename_i h2;try rw[h2]
   exact qy hc hj t _ _ h
  ·rename_i h2;try rw[h2]
   exact qy hc hj e _ _ h
  ·cases h
 | .sw k args v t e,env,o,h=>by
  unfold bK at h⊢;obtain⟨ds,h1,h⟩:=xr.1 h;rw[h1,xB];cases h2:aL k ds with
  |none=>rw[h2] at h;cases h
  |some d=>
   rw[h2] at h;simp only at h⊢;split at h
   ·rename_i hv;rw[if_pos hv];exact qy hc hj t _ _ h
   ·rename_i hv;rw[if_neg hv];exact qy hc hj e _ _ h
 | .note nd t,env,o,h=>by
  unfold bK at h⊢;exact qy hc hj t _ _ h
 | .call f i us cT t e,env,o,h=>by
  unfold bK at h⊢;obtain⟨ds,h1,h⟩:=xr.1 h;obtain⟨cF,h2,h⟩:=xr.1 h;rw[h1,xB,hc _ _ _ h2,xB];split at h
  ·rename_i hm;rw[if_pos hm];exact qy hc hj t _ _ h
  ·rename_i hm;rw[if_neg hm];exact qy hc hj e _ _ h
 | .jump h' m ρ aN us,env,o,h=>by
  unfold bK at h⊢;obtain⟨ds,h1,h⟩:=xr.1 h;rw[h1,xB];exact hj _ _ _ h
 | .ret ρ aN us,env,o,h=>by
  unfold bK at h⊢;exact h
 | .stop,env,o,h=>by
  unfold bK at h;cases h
 | .pick nk a ti h1 h2 lL mM c8 lK mL gO,env,o,h=>by
  unfold bK at h⊢;split at h
  ·rename_i left hl
   try simp only [hl]
   split at h
   ·rename_i he;rw[if_pos he];obtain⟨ds,h3,h4⟩:=xr.1 h;rw[h3,xB];exact hj _ _ _ h4
   ·rename_i he;rw[if_neg he,AB he];intro i hi;obtain⟨e,q1,q2⟩:=xr.1 ((AB he).1 h i hi);obtain⟨ds,h3,h4⟩:=xr.1 q2;rw[q1,xB,h3,xB];exact hj _ _ _ h4
  ·cases h
section
variable(F:List FD)(X:a0a)
theorem aH1:∀(i h:Nat) (ds o:a0d),exec F X n i h ds=some o->exec F X (n+1) i h ds=some o:=by
 induction n with
 |zero=>intro i h ds o e;unfold exec at e;cases e
 |succ n ih=>
  intro i h ds o e;unfold exec at e⊢;cases hi:F[i]? with
  |none=>rw[hi] at e;exact e
  |some fd=>
   rw[hi] at e;simp only at e⊢;cases hs:fd.hs[h]? with
   |none=>rw[hs] at e;cases e
   |some s=>
    cases ht:fd.rF[h]? with
    |none=>rw[hs,ht] at e;cases e
    |some t=>
     rw[hs,ht] at e;simp only at e⊢;split at e
     ·rename_i hm;rw[if_pos hm];exact qy (fun j ds o h=>ih j 0 ds o h) (fun j ds o h=>ih i j ds o h) t ds o e
     ·cases e
theorem yF{n m:Nat}(ii:n<=m){i h:Nat}{ds o:a0d}(e:exec F X n i h ds=some o):exec F X m i h ds=some o:=by
 induction ii with
 |refl=>exact e
 |step _ ih=>exact aH1 F X _ _ _ _ ih
def run(i h:Nat)(ds:a0d):Option (List D):=by
 classical
 exact if hh:∃n o,exec F X n i h ds=some o then some hh.choose_spec.choose else none
theorem AR{i h:Nat}:run F X i h ds=some o↔∃n,exec F X n i h ds=some o:=by
 unfold run;constructor
 ·intro e;split at e
  ·rename_i hh;cases e;exact⟨hh.choose,hh.choose_spec.choose_spec⟩
  ·cases e
 ·rintro⟨n,e⟩;have hh:∃n o,exec F X n i h ds=some o:=⟨n,o,e⟩;rw[dif_pos hh];have h1:=yF F X (Nat.le_max_left hh.choose n) hh.choose_spec.choose_spec;have h2:=yF F X (Nat.le_max_right hh.choose n) e;exact h1.symm.trans h2
theorem sH(i:Nat):∀(t:DT) (env o:a0d),bK (fun j ds=>run F X j 0 ds) (fun h ds=>run F X i h ds) t env=some o->∃n,bK (fun j ds=>exec F X n j 0 ds) (fun h ds=>exec F X n i h ds) t env=some o
 | .op k args t,env,o,h=>by
  unfold bK at h;obtain⟨ds,h1,h⟩:=xr.1 h;obtain⟨d,h2,h⟩:=xr.1 h;split at h
  ·rename_i hc;obtain⟨n,hn⟩:=sH i t _ _ h;refine⟨n,?_⟩;unfold bK;rw[h1,xB,h2,xB,if_pos hc];exact hn
  ·cases h
 | .aV k args cT t e,env,o,h=>by
  unfold bK at h;obtain⟨ds,h1,h⟩:=xr.1 h;split at h
  ·rename_i l h2;split at h
   ·rename_i hm;obtain⟨n,hn⟩:=sH i t _ _ h;refine⟨n,?_⟩;unfold bK;rw[h1,xB,h2];simp only [if_pos hm];exact hn
   ·rename_i hm;obtain⟨n,hn⟩:=sH i e _ _ h;refine⟨n,?_⟩;unfold bK;rw[h1,xB,h2];simp only [if_neg hm];exact hn
  ·cases h
 | .br k args t e,env,o,h=>by
  unfold bK at h;obtain⟨ds,h1,h⟩:=xr.1 h;split at h
  ·rename_i h2;obtain⟨n,hn⟩:=sH i t _ _ h;refine⟨n,?_⟩;unfold bK;rw[h1,xB,h2];exact hn
  ·rename_i h2;obtain⟨n,hn⟩:=sH i e _ _ h;refine⟨n,?_⟩;unfold bK;rw[h1,xB,h2];exact hn
  ·cases h
 | .sw k args v t e,env,o,h=>by
  unfold bK at h;obtain⟨ds,h1,h⟩:=xr.1 h;cases h2:aL k ds with
  |none=>rw[h2] at h;cases h
  |some d=>
   rw[h2] at h;simp only at h;split at h
   ·rename_i hv;obtain⟨n,hn⟩:=sH i t _ _ h;refine⟨n,?_⟩;unfold bK;rw[h1,xB,h2];simp only [if_pos hv];exact hn
   ·rename_i hv;obtain⟨n,hn⟩:=sH i e _ _ h;refine⟨n,?_⟩;unfold bK;rw[h1,xB,h2];simp only [if_neg hv];exact hn
 | .note nd t,env,o,h=>by
  unfold bK at h;obtain⟨n,hn⟩:=sH i t _ _ h;exact⟨n,by unfold bK;exact hn⟩
 | .call f j us cT t e,env,o,h=>by
  unfold bK at h;obtain⟨ds,h1,h⟩:=xr.1 h;obtain⟨cF,h2,h⟩:=xr.1 h;obtain⟨m,kp⟩:=(AR F X).1 h2;have ai6:∀{n:Nat} {t:DT} {env:a0d},bK (fun j ds=>exec F X n j 0 ds) (fun h ds=>exec F X n i h ds) t env=some o->bK (fun j ds=>exec F X (max m n) j 0 ds) (fun h ds=>exec F X (max m n) i h ds) t env=some o:=fun{n t env} e=>
   qy (fun j ds o h=>yF F X (Nat.le_max_right m n) h) (fun j ds o h=>yF F X (Nat.le_max_right m n) h) t env o e
  split at h
  ·rename_i hm;obtain⟨n,hn⟩:=sH i t _ _ h;refine⟨max m n,?_⟩;unfold bK;rw[h1,xB,yF F X (Nat.le_max_left m n) kp,xB,if_pos hm];exact ai6 hn
  ·rename_i hm;obtain⟨n,hn⟩:=sH i e _ _ h;refine⟨max m n,?_⟩;unfold bK;rw[h1,xB,yF F X (Nat.le_max_left m n) kp,xB,if_neg hm];exact ai6 hn
 | .jump h' m ρ aN us,env,o,h=>by
  unfold bK at h;obtain⟨ds,h1,h⟩:=xr.1 h;obtain⟨n,hn⟩:=(AR F X).1 h;refine⟨n,?_⟩;unfold bK;rw[h1,xB];exact hn
 | .ret ρ aN us,env,o,h=>by
  unfold bK at h;exact⟨0,by unfold bK;exact h⟩
 | .stop,env,o,h=>by
  unfold bK at h;cases h
 | .pick nk a ti h1 h2 lL mM c8 lK mL gO,env,o,h=>by
  unfold bK at h;split at h
  ·rename_i left hl;split at h
   ·rename_i he;obtain⟨ds,h3,h4⟩:=xr.1 h;obtain⟨n,hn⟩:=(AR F X).1 h4;refine⟨n,?_⟩;unfold bK;simp only [hl,if_pos he,h3,xB];exact hn
   ·rename_i he;have fB:=(AB he).1 h;have key:∀m,m<=left.length->∃n,∀j,j<m->(qC nk env left j).bind (fun e=>(aI (aZ (lk e)) c8).bind (fun ds=>exec F X n i h1 ds))=some o:=by
     intro m
     induction m with
     |zero=>intro _;exact⟨0,fun j hj=>a0B⟩
     |succ m ih=>
      intro hm;obtain⟨n,hn⟩:=ih a0B;obtain⟨e,q1,q2⟩:=xr.1 (fB m a0B);obtain⟨ds,h3,h4⟩:=xr.1 q2;obtain⟨n2,gf⟩:=(AR F X).1 h4;refine⟨max n n2,fun j hj=> ?_⟩;by_cases hjm:j<m
      ·obtain⟨e',Cu,sk⟩:=xr.1 (hn j hjm);obtain⟨cF,Av,h4'⟩:=xr.1 sk;rw[Cu,xB,Av,xB];exact yF F X (Nat.le_max_left _ _) h4'
      ·obtain rfl:j=m:=a0B
       rw[q1,xB,h3,xB];exact yF F X (Nat.le_max_right _ _) gf
    obtain⟨n,hn⟩:=key _ (xk _);refine⟨n,?_⟩;unfold bK;simp only [hl,if_neg he];rw[AB he];exact hn
  ·cases h
def Rn(i h:Nat)(ds:a0d)(Q:a0d->Prop):Prop:=∃o,run F X i h ds=some o/\Q o
def Wp(i:Nat)(t:DT)(env:a0d)(Q:a0d->Prop):Prop:=∃o,bK (fun j ds=>run F X j 0 ds) (fun h ds=>run F X i h ds) t env=some o/\Q o
variable{F X}{i h:Nat}{Q:a0d->Prop}
theorem Rn.of{fd:FD}{s:Hd}{t:DT}(hi:F[i]? =some fd)(hs:fd.hs[h]? =some s)(ht:fd.rF[h]? =some t)(hm:ds.length=s.m)(hw:Wp F X i t ds Q):Rn F X i h ds Q:=by
 obtain⟨o,h1,h2⟩:=hw;obtain⟨n,hn⟩:=sH F X i t ds o h1;refine⟨o,(AR F X).2 ⟨n+1,?_⟩,h2⟩;unfold exec;rw[hi];simp only;rw[hs,ht];simp only;rw[if_pos hm];exact hn
theorem Rn.mono(hr:Rn F X i h ds Q)(hq:∀o,Q o->Q' o):Rn F X i h ds Q':=hr.imp fun o hh=>⟨hh.1,hq o hh.2⟩
theorem Wp.mono{t:DT}(hr:Wp F X i t env Q)(hq:∀o,Q o->Q' o):Wp F X i t env Q':=hr.imp fun o hh=>⟨hh.1,hq o hh.2⟩
theorem Wp.op{t:DT}(h1:aI (bR (lk env)) args=some ds)(h2:aL k ds=some d)(h3:d.cell=true)(h4:Wp F X i t (env++[d]) Q):Wp F X i (.op k args t) env Q:=by
 obtain⟨o,e,q⟩:=h4;refine⟨o,?_,q⟩;unfold bK;rw[h1,xB,h2,xB,if_pos h3];exact e
theorem Wp.aV{t e:DT}{l:a0d}(h1:aI (bR (lk env)) args=some ds)(h2:aL k ds=some (.agg l))(h3:jx cT l=true)(h4:Wp F X i t (env++l) Q):Wp F X i (.aV k args cT t e) env Q:=by
 obtain⟨o,e,q⟩:=h4;refine⟨o,?_,q⟩;unfold bK;rw[h1,xB,h2];simp only [if_pos h3];exact e
theorem Wp.opN{t e:DT}{l:a0d}(h1:aI (bR (lk env)) args=some ds)(h2:aL k ds=some (.agg l))(h3:jx cT l=false)(h4:Wp F X i e env Q):Wp F X i (.aV k args cT t e) env Q:=by
 obtain⟨o,e,q⟩:=h4;refine⟨o,?_,q⟩;unfold bK;rw[h1,xB,h2];simp only [h3];exact e
theorem Wp.nV{t e:DT}(h1:aI (bR (lk env)) args=some ds)(h2:aL k ds=some (.bool true))(h4:Wp F X i t env Q):Wp F X i (.br k args t e) env Q:=by
 obtain⟨o,e,q⟩:=h4;refine⟨o,?_,q⟩;unfold bK;rw[h1,xB,h2];exact e
theorem Wp.rG{t e:DT}(h1:aI (bR (lk env)) args=some ds)(h2:aL k ds=some (.bool false))(h4:Wp F X i e env Q):Wp F X i (.br k args t e) env Q:=by
 obtain⟨o,e,q⟩:=h4;refine⟨o,?_,q⟩;unfold bK;rw[h1,xB,h2];exact e
theorem Wp.br{t e:DT}{b:Bool}(h1:aI (bR (lk env)) args=some ds)(h2:aL k ds=some (.bool b))(ht:b=true->Wp F X i t env Q)(he:b=false->Wp F X i e env Q):Wp F X i (.br k args t e) env Q:=by
 cases b with
 |true=>exact Wp.nV h1 h2 (ht rfl)
 |false=>exact Wp.rG h1 h2 (he rfl)
theorem Wp.aG{t e:DT}{p:Prop}[Decidable p](h1:aI (bR (lk env)) args=some ds)(h2:aL k ds=some (.bool (decide p)))(ht:p->Wp F X i t env Q)(he: ¬p->Wp F X i e env Q):Wp F X i (.br k args t e) env Q:=
 Wp.br h1 h2 (fun h=>ht (of_decide_eq_true h)) (fun h=>he (of_decide_eq_false h))
theorem Wp.Fi{v:xM}{t e:DT}(h1:aI (bR (lk env)) args=some ds)(h2:aL k ds=some d)(h3:y7 d v=true)(h4:Wp F X i t env Q):Wp F X i (.sw k args v t e) env Q:=by
 obtain⟨o,e,q⟩:=h4;refine⟨o,?_,q⟩;unfold bK;rw[h1,xB,h2];simp only [if_pos h3];exact e
theorem Wp.T3{v:xM}{t e:DT}(h1:aI (bR (lk env)) args=some ds)(h2:aL k ds=some d)(h3:y7 d v=false)(h4:Wp F X i e env Q):Wp F X i (.sw k args v t e) env Q:=by
 obtain⟨o,e,q⟩:=h4;refine⟨o,?_,q⟩;unfold bK;rw[h1,xB,h2];simp only [h3];exact e
theorem Wp.note{t:DT}(h4:Wp F X i t env Q):Wp F X i (.note nd t) env Q:=by
 obtain⟨o,e,q⟩:=h4;exact⟨o,by unfold bK;exact e,q⟩
theorem Wp.call{t e:DT}(h1:aI (aZ (lk env)) us=some ds)(h2:Rn F X j 0 ds Q')(h3:∀o,Q' o->(jx cT o=true/\Wp F X i t (env++o) Q)\/(jx cT o=false/\Wp F X i e env Q)):Wp F X i (.call f j us cT t e) env Q:=by
 obtain⟨o,e,q⟩:=h2;rcases h3 o q with⟨m,o',e',q'⟩|⟨m,o',e',q'⟩
 ·refine⟨o',?_,q'⟩;unfold bK;rw[h1,xB,e,xB,if_pos m];exact e'
 ·refine⟨o',?_,q'⟩;unfold bK;rw[h1,xB,e,xB,if_neg (by rw[m];exact Bool.noConfusion)];exact e'
theorem Wp.jU{t e:DT}(h1:aI (aZ (lk env)) us=some ds)(h2:Rn F X j 0 ds (·=o))(h3:jx cT o=true)(h4:Wp F X i t (env++o) Q):Wp F X i (.call f j us cT t e) env Q:=
 Wp.call h1 h2 fun _ e=> .inl (by subst e;exact⟨h3,h4⟩)
theorem Wp.HL{t e:DT}(h1:aI (aZ (lk env)) us=some ds)(h2:Rn F X j 0 ds (·=o))(h3:jx cT o=false)(h4:Wp F X i e env Q):Wp F X i (.call f j us cT t e) env Q:=
 Wp.call h1 h2 fun _ e=> .inr (by subst e;exact⟨h3,h4⟩)
theorem Wp.pick{a ti h1 h2:Nat}{lL:a0g}{mM c8:a0e}{lK:a0g}{mL gO:a0e}(hl:lk env a=some (.sl left))(he:left=[]->∃pV,aI (aZ (lk env)) gO=some pV/\Rn F X i h2 pV (·=out))
 (hp:∀j,j<left.length->∃e ds1,qC nk env left j=some e/\aI (aZ (lk e)) c8=some ds1/\Rn F X i h1 ds1 (·=out)):Wp F X i (.pick nk a ti h1 h2 lL mM c8 lK mL gO) env (·=out):=by
 refine⟨out,?_,rfl⟩;unfold bK;simp only [hl];by_cases hn:left=[]
 ·obtain⟨pV,e1,o,e2,rfl⟩:=he hn;rw[if_pos hn,e1,xB];exact e2
 ·rw[if_neg hn,AB hn];intro j hj;obtain⟨e,ds1,e1,e2,o,e3,rfl⟩:=hp j hj;rw[e1,xB,e2,xB];exact e3
theorem Wp.jump{h':Nat}(h1:aI (aZ (lk env)) us=some ds)(h2:Rn F X i h' ds Q):Wp F X i (.jump h' m ρ aN us) env Q:=by
 obtain⟨o,e,q⟩:=h2;refine⟨o,?_,q⟩;unfold bK;rw[h1,xB];exact e
theorem Wp.ret(h1:aI (aZ (lk env)) us=some o)(h2:Q o):Wp F X i (.ret ρ aN us) env Q:=⟨o,by unfold bK;exact h1,h2⟩
end
def yW(P:Program):Nat->xN->Bool
 |0,_=>false
 |n+1,t=>match P.underlying t with
  |some (.int _)=>P.cellsOf t==1
  |some .bool=>P.cellsOf t==1
  |some .string=>P.cellsOf t==1
  |some (.slice e)=>P.cellsOf t==1&&Nat.blt 0 (P.cellsOf e)&&yW P n e
  |some (.struct fs)=>(fs.toList.foldr (fun f k o=>f.offset==o&&yW P n f.type&&k (o+P.cellsOf f.type)) (fun o=>o==P.cellsOf t)) 0
  |_=>false
mutual
inductive TR (P:Program):xN->a0d->Prop
 |int {t:xN} {k:xO} {n:Int} (h:P.underlying t=some (.int k)) (hw:(Lit.int k n).wf=true):TR P t [.int k n]
 |bool {t:xN} {b:Bool} (h:P.underlying t=some .bool):TR P t [.bool b]
 |str {t:xN} {l:a0h} (h:P.underlying t=some .string) (hw:l.length<=maxLen):TR P t [.str l]
 |slice {t e:xN} {rows:a0b} (h:P.underlying t=some (.slice e)) (hl:rows.length<=maxLen) (hr:∀row∈rows,TR P e row):TR P t [.sl rows]
 |struct {t:xN} {fs:Array Field} {ds:a0d} (h:P.underlying t=some (.struct fs)) (hf:ui P fs.toList ds):TR P t ds
inductive ui (P:Program):List Field->List D->Prop
 |nil:ui P [] []
 |cons {f:Field} {r:List Field} {a b:a0d} (h:TR P f.type a) (hr:ui P r b):ui P (f::r) (a++b)
end
section
variable{t:xN}
theorem TR.aZ4{k:xO}(hu:P.underlying t=some (.int k))(h:TR P t ds):∃n,ds=[.int k n]/\(Lit.int k n).wf=true:=by
 cases h with
 |int h hw=>rw[hu] at h;cases h;exact⟨_,rfl,hw⟩
 |bool h=>rw[hu] at h;cases h
 |str h=>rw[hu] at h;cases h
 |slice h=>rw[hu] at h;cases h
 |struct h=>rw[hu] at h;cases h
theorem TR.Ow{e:xN}(hu:P.underlying t=some (.slice e))(h:TR P t ds):∃rows,ds=[.sl rows]/\rows.length<=maxLen/\∀row∈rows,TR P e row:=by
 cases h with
 |int h hw=>rw[hu] at h;cases h
 |bool h=>rw[hu] at h;cases h
 |str h=>rw[hu] at h;cases h
 |slice h hl hr=>rw[hu] at h;cases h;exact⟨_,rfl,hl,hr⟩
 |struct h=>rw[hu] at h;cases h
theorem TR.N7{fs:Array Field}(hu:P.underlying t=some (.struct fs))(h:TR P t ds):ui P fs.toList ds:=by
 cases h with
 |int h hw=>rw[hu] at h;cases h
 |bool h=>rw[hu] at h;cases h
 |str h=>rw[hu] at h;cases h
 |slice h=>rw[hu] at h;cases h
 |struct h hf=>rw[hu] at h;cases h;exact hf
theorem ui.cons_inv{f:Field}{r:List Field}(h:ui P (f::r) ds):∃a b,ds=a++b/\TR P f.type a/\ui P r b:=by
 cases h with|cons h hr=>exact⟨_,_,rfl,h,hr⟩
theorem ui.PL(h:ui P [] ds):ds=[]:=by cases h;rfl
end
theorem Kb{α:Type}{f:α->a0d}:∀{rows:a0b},(∀row∈rows,∃a,row=f a)->∃l:List α,rows=l.map f
 |[],_=>⟨[],rfl⟩
 |r::rows,h=>by
  obtain⟨a,rfl⟩:=h r xn;obtain⟨l,rfl⟩:=Kb (rows:=rows) fun x hx=>h x (xo _ hx)
  exact⟨a::l,rfl⟩
def zW(W:World):a0n:=fun b=>match W.heap[b]? with|some (.cells cs _ _)=>some cs|_=>none
theorem aD5(W:World):wk (zW W) W:=fun b cs h=>by
 unfold zW at h;split at h
 ·rename_i bC e fz hb;cases h;exact⟨e,fz,hb⟩
 ·cases h
def tu(W:World)(ds:a0d)(cs:a0e):Prop:=ds.length=cs.length/\(∀d∈ds,d.cell=true)/\∀(i:Nat) (d:D) (v:xM),ds[i]? =some d->cs[i]? =some v->Rd (zW W) d v
theorem DV{W:World}{v:xM}(hc:d.cell=true)(h:Rd (zW W) d v):tu W [d] [v]:=by
 refine⟨rfl,fun x hx=>by rw[xy.1 hx];exact hc,fun i d' v' h1 h2=> ?_⟩;cases i with
 |zero=>simp at h1 h2;subst h1;subst h2;exact h
 |succ i=>simp at h1
theorem tu.app{W:World}{a b:a0d}{x y:a0e}(h:tu W a x)(k:tu W b y):tu W (a++b) (x++y):=by
 refine⟨by rw[xa,xa,h.1,k.1],fun d hd=>(xF.1 hd).elim (h.2.1 d) (k.2.1 d),fun i d v h1 h2=> ?_⟩;by_cases hi:i<a.length
 ·rw[xw hi] at h1;rw[xw (h.1▸hi)] at h2;exact h.2.2 i d v h1 h2
 ·rw[xq a0B] at h1;rw[xq (by rw[<-h.1];omega),<-h.1] at h2;exact k.2.2 _ d v h1 h2
section
variable{H:Type}{enc:xN×xM->H}{W:World}
theorem P9{W:World}{a:Addr}{v:xM}(h:W.cell? a=some v):a.spot=none/\∃cs,zW W a.block=some cs/\cs[a.off]? =some v:=by
 unfold World.cell? at h;split at h
 ·rename_i c e fz hb;split at h
  ·cases h
  ·rename_i hs;refine⟨by simpa using hs,c,by unfold zW;rw[hb],h⟩
 ·cases h
theorem V0{n:Nat}{total:Nat}{cs:a0e}{xs:List (DataW H×List MemPlace)}(IH:∀(t:xN) (aU:Nat) (cs:a0e) (x:DataW H×List MemPlace),yW P n t=true->DataW.trod enc P W 0 (fun _=>true) true aU t cs=some x->∃ds,TR P t ds/\tu W ds cs)(cJ:cs.length=total){m:Nat}:
 ∀(fs:List Field) (o:Nat),(fs.foldr (fun f k o=>f.offset==o&&yW P n f.type&&k (o+P.cellsOf f.type)) (fun o=>o==total)) o=true->
  (∀f∈fs,∃x,DataW.trod enc P W 0 (fun _=>true) true m f.type ((cs.drop f.offset).take (P.cellsOf f.type))=some x)->
  o<=total->∃ds,ui P fs ds/\tu W ds (cs.drop o)
 |[],o,h,_,_=>by
  have h:o=total:=by simpa using h
  subst h;refine⟨[],.nil,?_,fun d hd=>by simp at hd,fun i d v h1=>by simp at h1⟩;simp[cJ]
 |f::fs,o,h,hx,ho=>by
  simp only [List.foldr_cons,xf,beq_iff_eq] at h;obtain⟨⟨h1,h2⟩,h3⟩:=h;obtain⟨x,pL⟩:=hx f xn;rw[h1] at pL;obtain⟨ds,t1,t2⟩:=IH _ _ _ _ h2 pL;by_cases aK:o+P.cellsOf f.type<=total
  ·obtain⟨cF,t3,t4⟩:=V0 (total:=total) (xs:=xs) IH cJ fs _ h3 (fun g hg=>hx g (xo _ hg)) aK;refine⟨ds++cF,.cons t1 t3,?_⟩;have e:cs.drop o=(cs.drop o).take (P.cellsOf f.type)++cs.drop (o+P.cellsOf f.type):=by
    rw[<-List.drop_drop,List.take_append_drop]
   rw[e];exact t2.app t4
  ·exfalso;have:∀(gs:List Field) (o:Nat),(gs.foldr (fun f k o=>f.offset==o&&yW P n f.type&&k (o+P.cellsOf f.type)) (fun o=>o==total)) o=true->o<=total:=by
    intro gs
    induction gs with
    |nil=>
     intro o h;have:o=total:=by simpa using h
     omega
    |cons g gs ih=>
     intro o h;simp only [List.foldr_cons,xf,beq_iff_eq] at h;have:=ih _ h.2;omega
   exact aK (this _ _ h3)
theorem av3:∀(n:Nat) (t:xN) (aU:Nat) (cs:a0e) (x:DataW H×List MemPlace),yW P n t=true->DataW.trod enc P W 0 (fun _=>true) true aU t cs=some x->∃ds,TR P t ds/\tu W ds cs:=by
 intro n
 induction n with
 |zero=>intro t aU cs x h;cases h
 |succ n ih=>
  intro t aU cs x hp h;unfold yW at hp;split at hp
  ·rename_i k hu;obtain⟨z,rfl,_,hw⟩:=DataW.trod_int hu h;exact⟨_,.int hu hw,DV rfl (.int _ _)⟩
  ·rename_i hu;obtain⟨b,rfl,_⟩:=DataW.trod_bool hu h;exact⟨_,.bool (b:=b) hu,DV rfl (.bool _)⟩
  ·rename_i hu;obtain⟨s,rfl,_,hs⟩:=DataW.trod_string hu h;refine⟨[.str s.data.toList],.str hu (by rw[Array.length_toList];exact hs),DV rfl ?_⟩;have:s=⟨⟨s.data.toList⟩⟩:=by cases s;rfl
   exact this▸Rd.str s.data.toList
  ·rename_i e hu;simp only [xf,beq_iff_eq] at hp;obtain⟨⟨pP,aO⟩,bH⟩:=hp;have aO:0<P.cellsOf e:=by simpa using aO
   rcases Deep.open_slice hu h with⟨rfl,_⟩|⟨a,len,cap,m,fu,DD,Pl,rfl,_,dt,UL,hm,_,hi⟩
   ·exact⟨[.sl []],.slice hu (xL _) (fun r hr=>by simp at hr),DV rfl .rj⟩
   ·have hm:m=cap:=by simpa using hm
    subst hm;have el:∀i,i<m->∃ds bC,W.cells? 0 (a.add (i*P.cellsOf e)) (P.cellsOf e)=some bC/\TR P e ds/\tu W ds bC:=fun i bk=>by
     obtain⟨bC,h1,h2⟩:=hi i bk;obtain⟨ds,t1,t2⟩:=ih _ _ _ _ bH h2;exact⟨ds,bC,h1,t1,t2⟩
    by_cases h0:len=0
    ·subst h0;exact⟨[.sl []],.slice hu (xL _) (fun r hr=>by simp at hr),DV rfl (.nO _ _)⟩
    ·
     have first:∃v,W.cell? a=some v:=by
      obtain⟨ds,bC,h1,_,_⟩:=el 0 a0B;obtain⟨_,hl,ao⟩:=World.cells?_some h1;have:=ao 0 aO;rw[Nat.zero_mul,Addr.add_zero',Addr.add_zero',xc a0B] at this;exact⟨_,this⟩
     obtain⟨v0,o3⟩:=first
     obtain⟨Uv,cells,hz,_⟩:=P9 o3;obtain⟨b,off,sp⟩:=a;simp only at Uv hz;subst Uv;have get:∀i,i<m->∃ds,TR P e ds/\ds.length=P.cellsOf e/\(∀d∈ds,d.cell=true)/\∀(j:Nat) (d:D) (v:xM),ds[j]? =some d->cells[off+(i*P.cellsOf e+j)]? =some v->Rd (zW W) d v:=fun i bk=>by
      obtain⟨ds,bC,h1,t1,t2⟩:=el i bk;obtain⟨_,hl,ao⟩:=World.cells?_some h1;refine⟨ds,t1,t2.1.trans hl,t2.2.1,fun j d v hd hv=> ?_⟩;have hj:j<bC.length:=by rw[<-t2.1];exact(xe.1 hd).1
      have h3:=ao j a0B;rw[Addr.add_lit,Addr.add_lit] at h3;rw[xc hj] at h3;obtain⟨_,F3,eP,dK⟩:=P9 h3;simp only at eP dK;rw[hz] at eP;cases eP;rw[Nat.add_assoc,hv] at dK;exact t2.2.2 j d v hd (by rw[xc hj];exact dK.symm)
     have aS:off+m*P.cellsOf e<=cells.size:=by
      obtain⟨ds,bC,h1,t1,t2⟩:=el (m - 1) a0B;obtain⟨_,hl,ao⟩:=World.cells?_some h1;have h3:=ao (P.cellsOf e - 1) a0B;rw[Addr.add_lit,Addr.add_lit,xc a0B] at h3;obtain⟨_,F3,eP,dK⟩:=P9 h3;simp only at eP dK;rw[hz] at eP;cases eP;have h4:=(Array.getElem?_eq_some_iff.1 dK).1;have h5:(m - 1)*P.cellsOf e+P.cellsOf e=m*P.cellsOf e:=by
       rw[<-Nat.succ_mul];congr 1;omega
      omega
     obtain⟨rows,eB,bu⟩:∃rows:a0b,rows.length=len/\∀i row,rows[i]? =some row->TR P e row/\row.length=P.cellsOf e/\(∀d∈row,d.cell=true)/\∀(j:Nat) (d:D) (v:xM),row[j]? =some d->cells[off+(i*P.cellsOf e+j)]? =some v->Rd (zW W) d v:=by
      have:∀k,k<=len->∃rows:a0b,rows.length=k/\∀i row,rows[i]? =some row->TR P e row/\row.length=P.cellsOf e/\(∀d∈row,d.cell=true)/\∀(j:Nat) (d:D) (v:xM),row[j]? =some d->cells[off+(i*P.cellsOf e+j)]? =some v->Rd (zW W) d v:=by
       intro k
       induction k with
       |zero=>exact fun _=>⟨[],rfl,fun i row h=>by simp at h⟩
       |succ k ihk=>
        intro hk;obtain⟨rows,g1,g2⟩:=ihk a0B;obtain⟨ds,g3⟩:=get k a0B;refine⟨rows++[ds],by rw[xa,g1];rfl,fun i row fb=> ?_⟩;by_cases hik:i<rows.length
        ·rw[xw hik] at fb;exact g2 i row fb
        ·have hl:=(xe.1 fb).1;rw[xa] at hl;have:i=rows.length:=by
          have:[ds].length=1:=rfl;omega
         subst this;rw[xq (xk _),Nat.sub_self] at fb;cases fb;rw[g1];exact g3
      exact this len (xk _)
     refine⟨[.sl rows],.slice hu a0B (fun row fb=> ?_),DV rfl ?_⟩
     ·obtain⟨i,ua,rfl⟩:=List.getElem_of_mem fb;exact(bu i _ (xc ua)).1
     ·have:=Rd.sl (z:=zW W) rows (P.cellsOf e) b off m cells hz (fun h=>by rw[h] at eB;simp at eB;omega) (fun row fb=>by
       obtain⟨i,ua,rfl⟩:=List.getElem_of_mem fb;exact(bu i _ (xc ua)).2.1) a0B aS (fun i row j d v h1 h2 h3=>(bu i row h1).2.2.2 j d v h2 h3)
      rw[eB] at this;exact this
  ·rename_i fs hu;obtain⟨xs,m,rfl,_,aD,hxl,hf⟩:=DataW.trod_struct hu h;obtain⟨ds,t1,t2⟩:=V0 (n:=n) (total:=P.cellsOf t) (xs:=xs) (m:=m) ih aD fs.toList 0 hp (fun f UE=>by
    obtain⟨i,ua,he⟩:=List.getElem_of_mem UE;have h1:fs[i]? =some f:=by
     rw[<-he,<-Array.getElem?_toList];exact xc ua
    have h2:=hf i f h1;have h3:i<xs.length:=by rw[hxl];simpa using ua
    rw[xc h3] at h2;exact⟨_,h2⟩) (xL _)
   exact⟨ds,.struct hu t1,t2⟩
  ·cases hp
end
end
end Go.Ex
