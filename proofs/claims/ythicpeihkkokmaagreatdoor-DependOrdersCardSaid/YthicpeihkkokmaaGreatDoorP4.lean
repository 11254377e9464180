/- What these functions answer. -/
import Derived.Test.YthicpeihkkokmaaGreatDoorP3
set_option linter.unusedVariables false
set_option linter.unusedSimpArgs false
set_option maxHeartbeats 4000000
set_option maxRecDepth 100000
namespace Go.Proofs.YthicpeihkkokmaaGreatDoor
open Go.Ex Go.RowKit Go.Fl
variable{X:Bv}{e:Fl.Ex}{l:JH}{h:Hn}{f:dj}
structure mN (X:Bv):Prop where
 name:∀s∈GN,Rn F X 109 0 [.str s] (·=[.bool true])
section
theorem ao4(hX:mN X)(hn:gO e):Rn F X 30 0 [.ptr (Ex.s e) 0] (·=[.bool true]):=by
 obtain⟨op,name,n,args⟩:=e;obtain⟨h1,h2,h3,h4,h5⟩:=hn.get;have ek:=zJ (X:=X) h1 h2;rcases h5 with⟨a,b,hm⟩|⟨a,rfl⟩
 ·rw[show vJ op=true from u_ ⟨a,b⟩] at ek;have iZ:=hX.name name hm;exact wr Y<|wg 3 Y<|wl Y ek rfl<|w9<|wg 3 Y<|wl Y iZ rfl<|mw<|wt Y Y
 ·rw[show vJ op=false from f_ MK] at ek;exact wr Y<|wg 3 Y<|wl Y ek rfl<|w9<|wt Y Y
theorem an3(hn:gO e):Rn F X 31 0 [.ptr (Ex.s e) 0] (·=[.bool true]):=by
 obtain⟨op,name,n,args⟩:=e;obtain⟨h1,h2,h3,h4,h5⟩:=hn.get;have ek:=zJ (X:=X) h1 h2;have hl:=gf args;rcases h5 with⟨a,b,hm⟩|⟨a,rfl⟩
 ·rw[show vJ op=true from u_ ⟨a,b⟩] at ek;exact wr Y<|wg 3 Y<|wl Y ek rfl<|w9<|wg 3 Y<|wo Y bc<|mw<|wn Y gG<|wg 3 Y<|wn Y ay<|wg 1 Y<|gV<|wg 2 Y<|wy Y ay<|wt Y Y
 ·rw[show vJ op=false from f_ MK] at ek;rcases h4 with⟨rfl,h4⟩|⟨h6,rfl⟩
  ·exact wr Y<|wg 3 Y<|wl Y ek rfl<|w9<|wg 3 Y<|wo Y bc<|mw<|Wp.c8 Y gG (by rw[hl,h3];simp)<|wg 5 Y<|gV<|wg 5 Y<|je<|wg 1 Y<|wy Y eP<|wt Y Y
  ·exact wr Y<|wg 3 Y<|wl Y ek rfl<|w9<|wg 3 Y<|wo Y bc<|mw<|wn Y gG<|wg 5 Y<|gV<|wg 2 Y<|wn Y ay<|wg 2 Y<|je<|wg 2 Y<|wt Y Y
theorem au8(hX:mN X)(h:jo gO e):Rn F X 20 0 [.ptr (Ex.s e) 0] (·=[.bool true]):=by
 induction h with
 | @mk op name n args hn ha ih=>
  obtain⟨h1,h2,h3,h4,h5⟩:=hn.get;have dY:jr op<=2:=by unfold jr;split<;>(try split)<;>omega
  have hg:=ao4 (X:=X) hX hn;have loop:∀(aa V:List Fl.Ex),args=V++aa->Rn F X 20 1 [.ptr (Ex.s ⟨op,name,n,args⟩) 0,jD args.length,jD V.length] (·=[.bool true]):=by
   intro aa
   induction aa with
   |nil=>
    intro V hp;rw[xj] at hp;subst hp;exact wr Y<|wn Y af<|wt Y Y
   |cons a aa cS=>
    intro V hp;have aE:=bC hp;have ao:(Ex.ss args)[V.length]? =some (Ex.s a):=by rw[hp];exact qe _ _ _
    have nw:=ih a (by rw[hp];simp);have:=cS (V++[a]) (by rw[hp,bA]);rw[xa] at this;obtain⟨o1,n1,i1,a1⟩:=a;exact wr Y<|wy Y af<|wg 3 Y<|wo Y (ax ao Y)<|w7<|wl Y nw rfl<|wo Y oA<|wj this
  exact wr Y<|wl Y hg rfl<|wg 3 Y<|w5<|wo Y (au (gf _))<|wj (loop args [] rfl)
theorem au7(h:jo gO e):Rn F X 21 0 [.ptr (Ex.s e) 0] (·=[.bool true]):=by
 induction h with
 | @mk op name n args hn ha ih=>
  obtain⟨h1,h2,h3,h4,h5⟩:=hn.get;have dY:jr op<=2:=by unfold jr;split<;>(try split)<;>omega
  have hg:=an3 (X:=X) hn;have loop:∀(aa V:List Fl.Ex),args=V++aa->Rn F X 21 1 [.ptr (Ex.s ⟨op,name,n,args⟩) 0,jD args.length,jD V.length] (·=[.bool true]):=by
   intro aa
   induction aa with
   |nil=>
    intro V hp;rw[xj] at hp;subst hp;exact wr Y<|wn Y af<|wt Y Y
   |cons a aa cS=>
    intro V hp;have aE:=bC hp;have ao:(Ex.ss args)[V.length]? =some (Ex.s a):=by rw[hp];exact qe _ _ _
    have nw:=ih a (by rw[hp];simp);have:=cS (V++[a]) (by rw[hp,bA]);rw[xa] at this;obtain⟨o1,n1,i1,a1⟩:=a;exact wr Y<|wy Y af<|wg 3 Y<|wo Y (ax ao Y)<|w7<|wl Y nw rfl<|wo Y oA<|wj this
  exact wr Y<|wl Y hg rfl<|wg 3 Y<|w5<|wo Y (au (gf _))<|wj (loop args [] rfl)
theorem aK8(hX:mN X){s:St}(hs:jy s):Rn F X 22 0 [.ptr (St.s s) 0] (·=[.bool true]):=by
 obtain⟨kind,name,cf,bf,th,el⟩:=s;have fI:bf.length<=3:=by have:=hs.ln;omega
 have loop:∀(aa V:List Fl.Ex),bf=V++aa->Rn F X 22 1 [.ptr (St.s ⟨kind,name,cf,bf,th,el⟩) 0,jD bf.length,jD V.length] (·=[.bool true]):=by
  intro aa
  induction aa with
  |nil=>
   intro V hp;rw[xj] at hp;subst hp;exact wr Y<|wn Y af<|wt Y Y
  |cons a aa cS=>
   intro V hp;have aE:=bC hp;have ao:(Ex.ss bf)[V.length]? =some (Ex.s a):=by rw[hp];exact qe _ _ _
   have ha:=hs.ex a (by rw[hp];simp);have BM:=ha.2;have nw:=au8 (X:=X) hX ha.1;have:=cS (V++[a]) (by rw[hp,bA]);rw[xa] at this;obtain⟨o1,n1,i1,a1⟩:=a;exact wr Y<|wy Y af<|wg 3 Y<|wo Y (ax ao Y)<|w7<|wl Y nw rfl<|wo Y oA<|wj this
 exact wr Y<|wg 3 Y<|wo Y (au (gf _))<|w5<|wj (loop bf [] rfl)
theorem aK7{s:St}(hs:jy s):Rn F X 23 0 [.ptr (St.s s) 0] (·=[.bool true]):=by
 obtain⟨kind,name,cf,bf,th,el⟩:=s;have fI:bf.length<=3:=by have:=hs.ln;omega
 have loop:∀(aa V:List Fl.Ex),bf=V++aa->Rn F X 23 1 [.ptr (St.s ⟨kind,name,cf,bf,th,el⟩) 0,jD bf.length,jD V.length] (·=[.bool true]):=by
  intro aa
  induction aa with
  |nil=>
   intro V hp;rw[xj] at hp;subst hp;exact wr Y<|wn Y af<|wt Y Y
  |cons a aa cS=>
   intro V hp;have aE:=bC hp;have ao:(Ex.ss bf)[V.length]? =some (Ex.s a):=by rw[hp];exact qe _ _ _
   have ha:=hs.ex a (by rw[hp];simp);have BM:=ha.2;have nw:=au7 (X:=X) ha.1;have:=cS (V++[a]) (by rw[hp,bA]);rw[xa] at this;obtain⟨o1,n1,i1,a1⟩:=a;exact wr Y<|wy Y af<|wg 3 Y<|wo Y (ax ao Y)<|w7<|wl Y nw rfl<|wo Y oA<|wj this
 exact wr Y<|wg 3 Y<|wo Y (au (gf _))<|w5<|wj (loop bf [] rfl)
theorem aV6{s:St}(hs:jy s):Rn F X 34 0 [.ptr (St.s s) 0] (·=[.bool true]):=by
 obtain⟨kind,name,cf,bf,th,el⟩:=s;have fI:bf.length<=3:=by have:=hs.ln;omega
 have loop:∀(aa V:List Fl.Ex),bf=V++aa->Rn F X 34 1 [.sl (Ex.ss bf),jD bf.length,jD V.length] (·=[.bool true]):=by
  intro aa
  induction aa with
  |nil=>
   intro V hp;rw[xj] at hp;subst hp;exact wr Y<|wn Y af<|wt Y Y
  |cons a aa cS=>
   intro V hp;have aE:=bC hp;have ao:(Ex.ss bf)[V.length]? =some (Ex.s a):=by rw[hp];exact qe _ _ _
   have ha:=hs.ex a (by rw[hp];simp);have BM:=ha.2;have nw:=au6 (X:=X) ha.1 MK;have:=cS (V++[a]) (by rw[hp,bA]);rw[xa] at this;obtain⟨o1,n1,i1,a1⟩:=a;exact wr Y<|wy Y af<|wo Y (ax ao Y)<|wg 1 Y<|w8<|wl Y nw rfl<|wn Y bZ<|wo Y oA<|wj this
 exact wr Y<|wg 3 Y<|wo Y (au (gf _))<|w5<|wj (loop bf [] rfl)
theorem ao3(hX:mN X){s:St}(hs:jy s):Rn F X 32 0 [.ptr (St.s s) 0] (·=[.bool true]):=by
 have hw:=aK8 hX hs;obtain⟨kind,name,cf,bf,th,el⟩:=s;have hf:=XF (X:=X) hs.k1 hs.uw;have k1:=hs.k1;have uw:=hs.uw;have key:∀k,kind=k->Rn F X 32 0 [.ptr (St.s ⟨kind,name,cf,bf,th,el⟩) 0] (·=[.bool true]):=by
  intro k hk;have iZ:((kind=1\/kind=2\/kind=3\/kind=6\/kind=9)->Rn F X 109 0 [.str name] (·=[.bool true])):=fun h=>by
   rcases hs.nm with⟨_,h2⟩|⟨h1,_⟩
   ·exact hX.name _ h2
   ·omega
  have sX:(kind=6\/kind=7)->Rn F X 109 0 [.str cf] (·=[.bool true]):=fun h=>by
   rcases hs.hn with⟨_,h2⟩|⟨h1,_⟩
   ·exact hX.name _ h2
   ·omega
  have:kind=1\/kind=2\/kind=3\/kind=4\/kind=5\/kind=6\/kind=7\/kind=8\/kind=9\/kind=10:=MK
  rcases this with rfl|rfl|rfl|rfl|rfl|rfl|rfl|rfl|rfl|rfl
  ·have hf:Rn F X 19 0 [bD 1] (·=[.bool true,.bool false,iD 1,iD 1,.bool false,.bool false,.bool true]):=hf;exact wr Y<|wg 3 Y<|wl Y hf rfl<|dF<|wg 3 Y<|wl Y (iZ MK) rfl<|dW<|wl Y hw rfl<|wt Y Y
  ·have hf:Rn F X 19 0 [bD 2] (·=[.bool true,.bool false,iD 2,iD 2,.bool false,.bool false,.bool true]):=hf;exact wr Y<|wg 3 Y<|wl Y hf rfl<|dF<|wg 3 Y<|wl Y (iZ MK) rfl<|dW<|wl Y hw rfl<|wt Y Y
  ·have hf:Rn F X 19 0 [bD 3] (·=[.bool true,.bool false,iD 1,iD 1,.bool false,.bool false,.bool true]):=hf;exact wr Y<|wg 3 Y<|wl Y hf rfl<|dF<|wg 3 Y<|wl Y (iZ MK) rfl<|dW<|wl Y hw rfl<|wt Y Y
  ·have hf:Rn F X 19 0 [bD 4] (·=[.bool false,.bool false,iD 1,iD 1,.bool true,.bool true,.bool true]):=hf;exact wr Y<|wg 3 Y<|wl Y hf rfl<|dF<|wl Y hw rfl<|wt Y Y
  ·have hf:Rn F X 19 0 [bD 5] (·=[.bool false,.bool false,iD 1,iD 1,.bool true,.bool false,.bool true]):=hf;exact wr Y<|wg 3 Y<|wl Y hf rfl<|dF<|wl Y hw rfl<|wt Y Y
  ·have hf:Rn F X 19 0 [bD 6] (·=[.bool true,.bool true,iD 0,iD 4,.bool false,.bool false,.bool true]):=hf;exact wr Y<|wg 3 Y<|wl Y hf rfl<|dF<|wg 3 Y<|wl Y (iZ MK) rfl<|dW<|wg 3 Y<|wl Y (sX MK) rfl<|gI<|wl Y hw rfl<|wt Y Y
  ·have hf:Rn F X 19 0 [bD 7] (·=[.bool false,.bool true,iD 1,iD 5,.bool false,.bool false,.bool true]):=hf;exact wr Y<|wg 3 Y<|wl Y hf rfl<|dF<|wg 3 Y<|wl Y (sX MK) rfl<|dW<|wl Y hw rfl<|wt Y Y
  ·have hf:Rn F X 19 0 [bD 8] (·=[.bool false,.bool false,iD 2,iD 2,.bool false,.bool true,.bool true]):=hf;exact wr Y<|wg 3 Y<|wl Y hf rfl<|dF<|wl Y hw rfl<|wt Y Y
  ·have hf:Rn F X 19 0 [bD 9] (·=[.bool true,.bool false,iD 1,iD 1,.bool false,.bool true,.bool true]):=hf;exact wr Y<|wg 3 Y<|wl Y hf rfl<|dF<|wg 3 Y<|wl Y (iZ MK) rfl<|dW<|wl Y hw rfl<|wt Y Y
  ·have hf:Rn F X 19 0 [bD 10] (·=[.bool false,.bool false,iD 0,iD 0,.bool false,.bool false,.bool true]):=hf;exact wr Y<|wg 3 Y<|wl Y hf rfl<|dF<|wl Y hw rfl<|wt Y Y
 exact key kind rfl
theorem an2{s:St}(hs:jy s):Rn F X 33 0 [.ptr (St.s s) 0] (·=[.bool true]):=by
 have hw:=aK7 (X:=X) hs;obtain⟨kind,name,cf,bf,th,el⟩:=s;have hf:=XF (X:=X) hs.k1 hs.uw;have k1:=hs.k1;have uw:=hs.uw;have iZ:=hs.nm;have sX:=hs.hn;have Ts:=hs.ln;have kM:=hs.g9;have fI:=hs.eln;have hl:=gf bf;have:kind=1\/kind=2\/kind=3\/kind=4\/kind=5\/kind=6\/kind=7\/kind=8\/kind=9\/kind=10:=MK
 rcases this with rfl|rfl|rfl|rfl|rfl|rfl|rfl|rfl|rfl|rfl
 ·obtain rfl:cf=[]:=by rcases sX with⟨h,_⟩|⟨_,h⟩;omega;exact h
  obtain rfl:th=[]:=by rcases kM with h|h|h;omega;omega;exact h
  obtain rfl:el=[]:=by rcases fI with h|h|h|h;omega;omega;omega;exact h
  have hf:Rn F X 19 0 [bD 1] (·=[.bool true,.bool false,iD 1,iD 1,.bool false,.bool false,.bool true]):=hf;exact wr Y<|wg 3 Y<|wl Y hf rfl<|dF<|wg 3 Y<|wo Y bc<|dW<|wn Y af<|wn Y bZ<|wg 5 Y<|gI<|wg 2 Y<|wo Y bc<|wg 2 Y<|pP<|wg 2 Y<|wo Y bc<|wg 1 Y<|wl Y hw rfl<|jq<|wt Y Y
 ·obtain rfl:cf=[]:=by rcases sX with⟨h,_⟩|⟨_,h⟩;omega;exact h
  obtain rfl:th=[]:=by rcases kM with h|h|h;omega;omega;exact h
  obtain rfl:el=[]:=by rcases fI with h|h|h|h;omega;omega;omega;exact h
  have hf:Rn F X 19 0 [bD 2] (·=[.bool true,.bool false,iD 2,iD 2,.bool false,.bool false,.bool true]):=hf;exact wr Y<|wg 3 Y<|wl Y hf rfl<|dF<|wg 3 Y<|wo Y bc<|dW<|wn Y af<|wn Y bZ<|wg 5 Y<|gI<|wg 2 Y<|wo Y bc<|wg 2 Y<|pP<|wg 2 Y<|wo Y bc<|wg 1 Y<|wl Y hw rfl<|jq<|wt Y Y
 ·obtain rfl:cf=[]:=by rcases sX with⟨h,_⟩|⟨_,h⟩;omega;exact h
  obtain rfl:th=[]:=by rcases kM with h|h|h;omega;omega;exact h
  obtain rfl:el=[]:=by rcases fI with h|h|h|h;omega;omega;omega;exact h
  have hf:Rn F X 19 0 [bD 3] (·=[.bool true,.bool false,iD 1,iD 1,.bool false,.bool false,.bool true]):=hf;exact wr Y<|wg 3 Y<|wl Y hf rfl<|dF<|wg 3 Y<|wo Y bc<|dW<|wn Y af<|wn Y bZ<|wg 5 Y<|gI<|wg 2 Y<|wo Y bc<|wg 2 Y<|pP<|wg 2 Y<|wo Y bc<|wg 1 Y<|wl Y hw rfl<|jq<|wt Y Y
 ·obtain rfl:name=[]:=by rcases iZ with⟨h,_⟩|⟨_,h⟩;omega;exact h
  obtain rfl:cf=[]:=by rcases sX with⟨h,_⟩|⟨_,h⟩;omega;exact h
  have hf:Rn F X 19 0 [bD 4] (·=[.bool false,.bool false,iD 1,iD 1,.bool true,.bool true,.bool true]):=hf;exact wr Y<|wg 3 Y<|wl Y hf rfl<|dF<|wg 3 Y<|wo Y bc<|dW<|wn Y af<|wn Y bZ<|wg 5 Y<|gI<|wg 3 Y<|wl Y hw rfl<|wt Y Y
 ·obtain rfl:name=[]:=by rcases iZ with⟨h,_⟩|⟨_,h⟩;omega;exact h
  obtain rfl:cf=[]:=by rcases sX with⟨h,_⟩|⟨_,h⟩;omega;exact h
  obtain rfl:el=[]:=by rcases fI with h|h|h|h;omega;omega;omega;exact h
  have hf:Rn F X 19 0 [bD 5] (·=[.bool false,.bool false,iD 1,iD 1,.bool true,.bool false,.bool true]):=hf;exact wr Y<|wg 3 Y<|wl Y hf rfl<|dF<|wg 3 Y<|wo Y bc<|dW<|wn Y af<|wn Y bZ<|wg 5 Y<|gI<|wg 5 Y<|pP<|wg 1 Y<|wo Y bc<|wg 1 Y<|wl Y hw rfl<|wt Y Y
 ·obtain rfl:th=[]:=by rcases kM with h|h|h;omega;omega;exact h
  obtain rfl:el=[]:=by rcases fI with h|h|h|h;omega;omega;omega;exact h
  have hf:Rn F X 19 0 [bD 6] (·=[.bool true,.bool true,iD 0,iD 4,.bool false,.bool false,.bool true]):=hf;exact wr Y<|wg 3 Y<|wl Y hf rfl<|dF<|wg 3 Y<|wo Y bc<|dW<|wn Y af<|wn Y bZ<|wg 3 Y<|wo Y bc<|gI<|wg 4 Y<|wo Y bc<|pP<|wg 1 Y<|wl Y hw rfl<|wt Y Y
 ·obtain rfl:name=[]:=by rcases iZ with⟨h,_⟩|⟨_,h⟩;omega;exact h
  obtain rfl:th=[]:=by rcases kM with h|h|h;omega;omega;exact h
  obtain rfl:el=[]:=by rcases fI with h|h|h|h;omega;omega;omega;exact h
  have hf:Rn F X 19 0 [bD 7] (·=[.bool false,.bool true,iD 1,iD 5,.bool false,.bool false,.bool true]):=hf;exact wr Y<|wg 3 Y<|wl Y hf rfl<|dF<|wg 3 Y<|wo Y bc<|dW<|wn Y af<|wn Y bZ<|wg 5 Y<|gI<|wg 2 Y<|wo Y bc<|wg 2 Y<|pP<|wg 2 Y<|wo Y bc<|wg 1 Y<|wl Y hw rfl<|jq<|wt Y Y
 ·obtain rfl:name=[]:=by rcases iZ with⟨h,_⟩|⟨_,h⟩;omega;exact h
  obtain rfl:cf=[]:=by rcases sX with⟨h,_⟩|⟨_,h⟩;omega;exact h
  obtain rfl:th=[]:=by rcases kM with h|h|h;omega;omega;exact h
  have hf:Rn F X 19 0 [bD 8] (·=[.bool false,.bool false,iD 2,iD 2,.bool false,.bool true,.bool true]):=hf;exact wr Y<|wg 3 Y<|wl Y hf rfl<|dF<|wg 3 Y<|wo Y bc<|dW<|wn Y af<|wn Y bZ<|wg 5 Y<|gI<|wg 5 Y<|pP<|wg 1 Y<|wo Y bc<|wg 1 Y<|wl Y hw rfl<|wt Y Y
 ·obtain rfl:cf=[]:=by rcases sX with⟨h,_⟩|⟨_,h⟩;omega;exact h
  obtain rfl:th=[]:=by rcases kM with h|h|h;omega;omega;exact h
  have hf:Rn F X 19 0 [bD 9] (·=[.bool true,.bool false,iD 1,iD 1,.bool false,.bool true,.bool true]):=hf;exact wr Y<|wg 3 Y<|wl Y hf rfl<|dF<|wg 3 Y<|wo Y bc<|dW<|wn Y af<|wn Y bZ<|wg 5 Y<|gI<|wg 2 Y<|wo Y bc<|wg 1 Y<|wl Y hw rfl<|pP<|wt Y Y
 ·obtain rfl:name=[]:=by rcases iZ with⟨h,_⟩|⟨_,h⟩;omega;exact h
  obtain rfl:cf=[]:=by rcases sX with⟨h,_⟩|⟨_,h⟩;omega;exact h
  obtain rfl:th=[]:=by rcases kM with h|h|h;omega;omega;exact h
  obtain rfl:el=[]:=by rcases fI with h|h|h|h;omega;omega;omega;exact h
  have hf:Rn F X 19 0 [bD 10] (·=[.bool false,.bool false,iD 0,iD 0,.bool false,.bool false,.bool true]):=hf;exact wr Y<|wg 3 Y<|wl Y hf rfl<|dF<|wg 3 Y<|wo Y bc<|dW<|wn Y af<|wn Y bZ<|wg 5 Y<|gI<|wg 5 Y<|pP<|wg 1 Y<|wo Y bc<|wg 3 Y<|jq<|wg 1 Y<|wo Y bc<|wg 1 Y<|wl Y hw rfl<|wt Y Y
theorem bd6(hl:l.length<=12)(h:∀s∈l,dL jy s):Rn F X 24 0 [.sl (St.ss l)] (·=[.bool true]):=by
 refine dL.list (P:=fun l=>Rn F X 24 0 [.sl (St.ss l)] (·=[.bool true])) ?_ hl h;clear hl h;intro l hl h;have loop:∀(aa V:JH),l=V++aa->Rn F X 24 1 [.sl (St.ss l),jD l.length,jD V.length] (·=[.bool true]):=by
  intro aa
  induction aa with
  |nil=>
   intro V hp;rw[xj] at hp;subst hp;exact wr Y<|wn Y af<|wt Y Y
  |cons a aa cS=>
   intro V hp;have aE:=bC hp;have ao:(St.ss l)[V.length]? =some (St.s a):=by rw[hp];exact uY _ _ _
   obtain⟨ha,hs⟩:=h a (by rw[hp];simp);have hg:=aV6 (X:=X) ha;have:=cS (V++[a]) (by rw[hp,bA]);rw[xa] at this;obtain⟨kind,name,cf,bf,th,el⟩:=a;obtain⟨dA,cJ⟩:=hs;exact wr Y<|wy Y af<|wo Y (ax ao Y)<|wl Y hg rfl<|wg 2 Y<|w7<|wg 1 Y<|wl Y dA rfl<|wg 2 Y<|dF<|wg 1 Y<|wl Y cJ rfl<|wo Y oA<|wj this
 exact wr Y<|wo Y (au (l9 _))<|wj (loop l [] rfl)
theorem bd5(hX:mN X)(hl:l.length<=12)(h:∀s∈l,dL jy s):Rn F X 25 0 [.sl (St.ss l)] (·=[.bool true]):=by
 refine dL.list (P:=fun l=>Rn F X 25 0 [.sl (St.ss l)] (·=[.bool true])) ?_ hl h;clear hl h;intro l hl h;have loop:∀(aa V:JH),l=V++aa->Rn F X 25 1 [.sl (St.ss l),jD l.length,jD V.length] (·=[.bool true]):=by
  intro aa
  induction aa with
  |nil=>
   intro V hp;rw[xj] at hp;subst hp;exact wr Y<|wn Y af<|wt Y Y
  |cons a aa cS=>
   intro V hp;have aE:=bC hp;have ao:(St.ss l)[V.length]? =some (St.s a):=by rw[hp];exact uY _ _ _
   obtain⟨ha,hs⟩:=h a (by rw[hp];simp);have hg:=ao3 (X:=X) hX ha;have:=cS (V++[a]) (by rw[hp,bA]);rw[xa] at this;obtain⟨kind,name,cf,bf,th,el⟩:=a;obtain⟨dA,cJ⟩:=hs;exact wr Y<|wy Y af<|wo Y (ax ao Y)<|wl Y hg rfl<|wg 2 Y<|w7<|wg 1 Y<|wl Y dA rfl<|wg 2 Y<|dF<|wg 1 Y<|wl Y cJ rfl<|wo Y oA<|wj this
 exact wr Y<|wo Y (au (l9 _))<|wj (loop l [] rfl)
theorem bd4(hl:l.length<=12)(h:∀s∈l,dL jy s):Rn F X 26 0 [.sl (St.ss l)] (·=[.bool true]):=by
 refine dL.list (P:=fun l=>Rn F X 26 0 [.sl (St.ss l)] (·=[.bool true])) ?_ hl h;clear hl h;intro l hl h;have loop:∀(aa V:JH),l=V++aa->Rn F X 26 1 [.sl (St.ss l),jD l.length,jD V.length] (·=[.bool true]):=by
  intro aa
  induction aa with
  |nil=>
   intro V hp;rw[xj] at hp;subst hp;exact wr Y<|wn Y af<|wt Y Y
  |cons a aa cS=>
   intro V hp;have aE:=bC hp;have ao:(St.ss l)[V.length]? =some (St.s a):=by rw[hp];exact uY _ _ _
   obtain⟨ha,hs⟩:=h a (by rw[hp];simp);have hg:=an2 (X:=X) ha;have:=cS (V++[a]) (by rw[hp,bA]);rw[xa] at this;obtain⟨kind,name,cf,bf,th,el⟩:=a;obtain⟨dA,cJ⟩:=hs;exact wr Y<|wy Y af<|wo Y (ax ao Y)<|wl Y hg rfl<|wg 2 Y<|w7<|wg 1 Y<|wl Y dA rfl<|wg 2 Y<|dF<|wg 1 Y<|wl Y cJ rfl<|wo Y oA<|wj this
 exact wr Y<|wo Y (au (l9 _))<|wj (loop l [] rfl)
end
section
theorem am5(hX:mN X)(hh:B6 h):Rn F X 35 0 h.s (·=[.bool true]):=by
 obtain⟨name,params,body⟩:=h;have hp:params.length<=2:=hh.params.1;have h12:St.ns body<=12:=hh.n;have hd:St.eB body<=4:=hh.dp;have c1:=aC3 (X:=X) 12 body h12 (xk _);have c2:=aI0 (X:=X) 12 body h12 (xk _) MK;have c3:=bd6 (X:=X) hh.len hh.body;have fW:(strs params).length=params.length:=xm _;show Rn F X 35 0 [.str name,.sl (strs params),.sl (St.ss body)] _;exact wr Y<|wo Y bc<|wn Y bZ<|wl Y c1 Y<|wn Y bZ<|wl Y c2 Y<|wn Y bZ<|wl Y c3 Y<|w7<|wt Y Y
theorem am6(hX:mN X)(hh:B6 h):Rn F X 36 0 h.s (·=[.bool true]):=by
 obtain⟨name,params,body⟩:=h;have hp:params.length<=2:=hh.params.1;have hn:=hX.name name hh.name;have c3:=bd5 hX hh.len hh.body;have fW:(strs params).length=params.length:=xm _;have loop:∀(aa V:L5),params=V++aa->Rn F X 36 1 [.sl (strs params),jD params.length,jD V.length,.str name,.sl (St.ss body)] (·=[.bool true]):=by
  intro aa
  induction aa with
  |nil=>
   intro V hp;rw[xj] at hp;subst hp;exact wr Y<|wn Y af<|wl Y c3 Y<|wt Y Y
  |cons a aa cS=>
   intro V aI;have aE:=bC aI;have ao:(strs params)[V.length]? =some [.str a]:=cz (f:=fun p:aq=>[D.str p]) aI;have ha:=hX.name a (hh.params.2 a (by show a∈params;rw[aI];simp));have:=cS (V++[a]) (by rw[aI,bA]);rw[xa] at this;exact wr Y<|wy Y af<|wo Y (ax ao Y)<|wg 1 Y<|wl Y ha rfl<|wo Y oA<|w9<|wj this
 exact wr Y<|wl Y hn rfl<|wo Y (au fW)<|wj (loop params [] rfl)
theorem am3(hX:mN X)(hh:B6 h):Rn F X 37 0 h.s (·=[.bool true]):=by
 obtain⟨name,params,body⟩:=h;have c3:=bd4 (X:=X) hh.len hh.body;exact wr Y<|wl Y c3 Y<|wt Y Y
theorem ao9{v:Vr}(hv:VrS v):Rn F X 38 0 v.s (·=[.bool true]):=by
 obtain⟨name,type,init⟩:=v;have ht:=hv.type;simp only at ht;rcases ht with⟨rfl,h⟩|⟨rfl|rfl,rfl⟩
 ·exact wr Y<|wg 1 Y<|wy Y gG<|wt Y Y
 ·exact wr Y<|wg 3 Y<|wt Y Y
 ·exact wr Y<|wg 4 Y<|wt Y Y
theorem aS3(hX:mN X)(hf:tw f):Rn F X 27 0 f.s (·=[.bool true]):=by
 obtain⟨nm,fl,lk,cs⟩:=f;have qM:cs.length<=3:=hf.comps.2.1;have loop:∀(aa V:List Cm),cs=V++aa->Rn F X 27 1 [.sl (cs.map Cm.s),jD cs.length,jD V.length] (·=[.bool true]):=by
  intro aa
  induction aa with
  |nil=>
   intro V hp;rw[xj] at hp;subst hp;exact wr Y<|wn Y af<|wt Y Y
  |cons c aa ih=>
   intro V hp;have aE:=bC hp;have ao:=cz (f:=Cm.s) hp;have df:=hf.comps.2.2 c (by show c∈cs;rw[hp];simp);have next:=ih (V++[c]) (by rw[hp,bA]);rw[xa] at next;obtain⟨cn,vars,vs⟩:=c;have dJ:vs.length<=2:=df.vs.2;have kW:∀(bW bh:Mm),vs=bh++bW->Rn F X 27 2 [.sl (cs.map Cm.s),jD cs.length,jD V.length,.sl (ca vs),jD vs.length,jD bh.length] (·=[.bool true]):=by
    intro bW
    induction bW with
    |nil=>
     intro bh aO;rw[xj] at aO;subst aO;exact wr Y<|wn Y af<|wo Y oA<|wj next
    |cons v bW dO=>
     intro bh aO;have r9:=bC aO;have gR:(ca vs)[bh.length]? =some [.sl (v.map Hn.s)]:=cz (f:=fun l:List Hn=>[D.sl (l.map Hn.s)]) aO;have jl:=dO (bh++[v]) (by rw[aO,bA]);rw[xa] at jl;have hv:=df.hs v (by show v∈vs;rw[aO];simp);have lX:=hv.1;have mg:∀(dV bq:List Hn),v=bq++dV->Rn F X 27 3 [.sl (cs.map Cm.s),jD cs.length,jD V.length,.sl (ca vs),jD vs.length,jD bh.length,.sl (v.map Hn.s),jD v.length,jD bq.length] (·=[.bool true]):=by
      intro dV
      induction dV with
      |nil=>
       intro bq bF;rw[xj] at bF;subst bF;exact wr Y<|wn Y af<|wo Y oA<|wj jl
      |cons h dV mB=>
       intro bq bF;have vz:=bC bF;have gQ:=cz (f:=Hn.s) bF;have fA:=mB (bq++[h]) (by rw[bF,bA]);rw[xa] at fA;have hh:=hv.2 h (by rw[bF];simp);have hg:=am5 hX hh;obtain⟨hn,mI,zk⟩:=h;exact wr Y<|wy Y af<|wo Y (ax gQ rfl)<|wg 1 Y<|mw<|wl Y hg rfl<|wo Y oA<|wj fA
     exact wr Y<|wy Y af<|wo Y (ax gR rfl)<|wg 1 Y<|w8<|wo Y (au (ch _ _))<|wj (mg v [] rfl)
   exact wr Y<|wy Y af<|wo Y (ax ao Y)<|wg 1 Y<|w7<|wo Y (au (ch _ _))<|wj (kW vs [] rfl)
 exact wr Y<|wo Y (au (ch _ _))<|wj (loop cs [] rfl)
theorem aS2(hX:mN X)(hf:tw f):Rn F X 28 0 f.s (·=[.bool true]):=by
 obtain⟨nm,fl,lk,cs⟩:=f;have qM:cs.length<=3:=hf.comps.2.1;have loop:∀(aa V:List Cm),cs=V++aa->Rn F X 28 1 [.sl (cs.map Cm.s),jD cs.length,jD V.length] (·=[.bool true]):=by
  intro aa
  induction aa with
  |nil=>
   intro V hp;rw[xj] at hp;subst hp;exact wr Y<|wn Y af<|wt Y Y
  |cons c aa ih=>
   intro V hp;have aE:=bC hp;have ao:=cz (f:=Cm.s) hp;have df:=hf.comps.2.2 c (by show c∈cs;rw[hp];simp);have next:=ih (V++[c]) (by rw[hp,bA]);rw[xa] at next;obtain⟨cn,vars,vs⟩:=c;have dJ:vs.length<=2:=df.vs.2;have kW:∀(bW bh:Mm),vs=bh++bW->Rn F X 28 2 [.sl (cs.map Cm.s),jD cs.length,jD V.length,.sl (ca vs),jD vs.length,jD bh.length] (·=[.bool true]):=by
    intro bW
    induction bW with
    |nil=>
     intro bh aO;rw[xj] at aO;subst aO;exact wr Y<|wn Y af<|wo Y oA<|wj next
    |cons v bW dO=>
     intro bh aO;have r9:=bC aO;have gR:(ca vs)[bh.length]? =some [.sl (v.map Hn.s)]:=cz (f:=fun l:List Hn=>[D.sl (l.map Hn.s)]) aO;have jl:=dO (bh++[v]) (by rw[aO,bA]);rw[xa] at jl;have hv:=df.hs v (by show v∈vs;rw[aO];simp);have lX:=hv.1;have mg:∀(dV bq:List Hn),v=bq++dV->Rn F X 28 3 [.sl (cs.map Cm.s),jD cs.length,jD V.length,.sl (ca vs),jD vs.length,jD bh.length,.sl (v.map Hn.s),jD v.length,jD bq.length] (·=[.bool true]):=by
      intro dV
      induction dV with
      |nil=>
       intro bq bF;rw[xj] at bF;subst bF;exact wr Y<|wn Y af<|wo Y oA<|wj jl
      |cons h dV mB=>
       intro bq bF;have vz:=bC bF;have gQ:=cz (f:=Hn.s) bF;have fA:=mB (bq++[h]) (by rw[bF,bA]);rw[xa] at fA;have hh:=hv.2 h (by rw[bF];simp);have hg:=am6 hX hh;obtain⟨hn,mI,zk⟩:=h;exact wr Y<|wy Y af<|wo Y (ax gQ rfl)<|wg 1 Y<|mw<|wl Y hg rfl<|wo Y oA<|wj fA
     exact wr Y<|wy Y af<|wo Y (ax gR rfl)<|wg 1 Y<|w8<|wo Y (au (ch _ _))<|wj (mg v [] rfl)
   exact wr Y<|wy Y af<|wo Y (ax ao Y)<|wg 1 Y<|w7<|wo Y (au (ch _ _))<|wj (kW vs [] rfl)
 exact wr Y<|wo Y (au (ch _ _))<|wj (loop cs [] rfl)
theorem aS1(hX:mN X)(hf:tw f):Rn F X 29 0 f.s (·=[.bool true]):=by
 obtain⟨nm,fl,lk,cs⟩:=f;have qM:cs.length<=3:=hf.comps.2.1;have loop:∀(aa V:List Cm),cs=V++aa->Rn F X 29 1 [.sl (cs.map Cm.s),jD cs.length,jD V.length] (·=[.bool true]):=by
  intro aa
  induction aa with
  |nil=>
   intro V hp;rw[xj] at hp;subst hp;exact wr Y<|wn Y af<|wt Y Y
  |cons c aa ih=>
   intro V hp;have aE:=bC hp;have ao:=cz (f:=Cm.s) hp;have df:=hf.comps.2.2 c (by show c∈cs;rw[hp];simp);have next:=ih (V++[c]) (by rw[hp,bA]);rw[xa] at next;obtain⟨cn,vars,vs⟩:=c;have dJ:vs.length<=2:=df.vs.2;have kW:∀(bW bh:Mm),vs=bh++bW->Rn F X 29 2 [.sl (cs.map Cm.s),jD cs.length,jD V.length,.sl (ca vs),jD vs.length,jD bh.length] (·=[.bool true]):=by
    intro bW
    induction bW with
    |nil=>
     intro bh aO;rw[xj] at aO;subst aO;exact wr Y<|wn Y af<|wo Y oA<|wj next
    |cons v bW dO=>
     intro bh aO;have r9:=bC aO;have gR:(ca vs)[bh.length]? =some [.sl (v.map Hn.s)]:=cz (f:=fun l:List Hn=>[D.sl (l.map Hn.s)]) aO;have jl:=dO (bh++[v]) (by rw[aO,bA]);rw[xa] at jl;have hv:=df.hs v (by show v∈vs;rw[aO];simp);have lX:=hv.1;have mg:∀(dV bq:List Hn),v=bq++dV->Rn F X 29 3 [.sl (cs.map Cm.s),jD cs.length,jD V.length,.sl (ca vs),jD vs.length,jD bh.length,.sl (v.map Hn.s),jD v.length,jD bq.length] (·=[.bool true]):=by
      intro dV
      induction dV with
      |nil=>
       intro bq bF;rw[xj] at bF;subst bF;exact wr Y<|wn Y af<|wo Y oA<|wj jl
      |cons h dV mB=>
       intro bq bF;have vz:=bC bF;have gQ:=cz (f:=Hn.s) bF;have fA:=mB (bq++[h]) (by rw[bF,bA]);rw[xa] at fA;have hh:=hv.2 h (by rw[bF];simp);have hg:=am3 hX hh;obtain⟨hn,mI,zk⟩:=h;exact wr Y<|wy Y af<|wo Y (ax gQ rfl)<|wg 1 Y<|mw<|wl Y hg rfl<|wo Y oA<|wj fA
     exact wr Y<|wy Y af<|wo Y (ax gR rfl)<|wg 1 Y<|w8<|wo Y (au (ch _ _))<|wj (mg v [] rfl)
   exact wr Y<|wy Y af<|wo Y (ax ao Y)<|wg 1 Y<|w7<|wo Y (au (ch _ _))<|wj (kW vs [] rfl)
 exact wr Y<|wo Y (au (ch _ _))<|wj (loop cs [] rfl)
theorem ay5(hX:mN X)(hf:tw f):Rn F X 40 0 f.s (·=[.bool true]):=by
 have hE:=aS1 hX hf;obtain⟨nm,fl,lk,cs⟩:=f;have hE:Rn F X 29 0 [.str nm,.sl (fl.map Fg.d),.sl (lk.map Lk.d),.sl (cs.map Cm.s)] (·=[.bool true]):=hE;have HI:lk.length<=9:=hf.links.1;have qM:cs.length<=3:=hf.comps.2.1;have GF:∀(aa V:List Cm),cs=V++aa->Rn F X 40 2 [.sl (cs.map Cm.s),jD cs.length,jD V.length,.str nm,.sl (fl.map Fg.d),.sl (lk.map Lk.d)] (·=[.bool true]):=by
  intro aa
  induction aa with
  |nil=>
   intro V hp;rw[xj] at hp;subst hp;exact wr Y<|wn Y af<|wl Y hE rfl<|wt Y Y
  |cons c aa ih=>
   intro V hp;have aE:=bC hp;have ao:=cz (f:=Cm.s) hp;have df:=hf.comps.2.2 c (by show c∈cs;rw[hp];simp);have next:=ih (V++[c]) (by rw[hp,bA]);rw[xa] at next;obtain⟨cn,vars,vs⟩:=c;have Tc:vars.length<=5:=df.vars.1;have kW:∀(bW bh:List Vr),vars=bh++bW->Rn F X 40 3 [.sl (cs.map Cm.s),jD cs.length,jD V.length,.sl (vars.map Vr.s),jD vars.length,jD bh.length,.str nm,.sl (fl.map Fg.d),.sl (lk.map Lk.d)] (·=[.bool true]):=by
    intro bW
    induction bW with
    |nil=>
     intro bh aO;rw[xj] at aO;subst aO;exact wr Y<|wn Y af<|wo Y oA<|wj next
    |cons v bW dO=>
     intro bh aO;have r9:=bC aO;have gR:=cz (f:=Vr.s) aO;have jl:=dO (bh++[v]) (by rw[aO,bA]);rw[xa] at jl;have hg:=ao9 (X:=X) (df.vars.2 v (by show v∈vars;rw[aO];simp));obtain⟨v1,v2,v3⟩:=v;exact wr Y<|wy Y af<|wo Y (ax gR rfl)<|wg 1 Y<|mw<|wl Y hg rfl<|wo Y oA<|wj jl
   exact wr Y<|wy Y af<|wo Y (ax ao Y)<|wg 1 Y<|nR<|wo Y (au (ch _ _))<|wj (kW vars [] rfl)
 have Am:∀(aa V:List Lk),lk=V++aa->Rn F X 40 1 [.sl (lk.map Lk.d),jD lk.length,jD V.length,.str nm,.sl (fl.map Fg.d),.sl (cs.map Cm.s)] (·=[.bool true]):=by
  intro aa
  induction aa with
  |nil=>
   intro V hp;rw[xj] at hp;subst hp;exact wr Y<|wn Y af<|wo Y (au (ch _ _))<|wj (GF cs [] rfl)
  |cons v aa ih=>
   intro V hp;have aE:=bC hp;have ao:=cz (f:=Lk.d) hp;have next:=ih (V++[v]) (by rw[hp,bA]);rw[xa] at next;have hl:=(hf.links.2 v (by show v∈lk;rw[hp];simp)).y0;obtain⟨a,b,c⟩:=v;simp only at hl;refine wr Y<|wy Y af<|wo Y (ax ao Y)<|wg 1 Y ?_;dsimp only [ew,Ex.r,St.r,c_,n_,kK,kJ,kI,kH,kG,Lk.d];exact wn Y af<|wn Y bZ<|wo Y oA<|wj next
 exact wr Y<|wo Y (au (ch _ _))<|wj (Am lk [] rfl)
theorem aF0(hX:mN X)(hf:tw f):Rn F X 39 0 f.s (·=[.bool true]):=by
 have hE:=aS2 hX hf;obtain⟨nm,fl,lk,cs⟩:=f;have hE:Rn F X 28 0 [.str nm,.sl (fl.map Fg.d),.sl (lk.map Lk.d),.sl (cs.map Cm.s)] (·=[.bool true]):=hE;have HI:lk.length<=9:=hf.links.1;have BH:fl.length<=2:=hf.flags.1;have qM:cs.length<=3:=hf.comps.2.1;have Av:=hX.name nm hf.name;have GF:∀(aa V:List Cm),cs=V++aa->Rn F X 39 5 [.sl (cs.map Cm.s),jD cs.length,jD V.length,.str nm,.sl (fl.map Fg.d),.sl (lk.map Lk.d)] (·=[.bool true]):=by
  intro aa
  induction aa with
  |nil=>
   intro V hp;rw[xj] at hp;subst hp;exact wr Y<|wn Y af<|wl Y hE rfl<|wt Y Y
  |cons c aa ih=>
   intro V hp;have aE:=bC hp;have ao:=cz (f:=Cm.s) hp;have df:=hf.comps.2.2 c (by show c∈cs;rw[hp];simp);have next:=ih (V++[c]) (by rw[hp,bA]);rw[xa] at next;have sZ:=hX.name c.name df.name;obtain⟨cn,vars,vs⟩:=c;have Tc:vars.length<=5:=df.vars.1;have kW:∀(bW bh:List Vr),vars=bh++bW->Rn F X 39 7 [.sl (cs.map Cm.s),jD cs.length,jD V.length,.sl (vars.map Vr.s),jD vars.length,jD bh.length,.str nm,.sl (fl.map Fg.d),.sl (lk.map Lk.d)] (·=[.bool true]):=by
    intro bW
    induction bW with
    |nil=>
     intro bh aO;rw[xj] at aO;subst aO;exact wr Y<|wn Y af<|wo Y oA<|wj next
    |cons v bW dO=>
     intro bh aO;have r9:=bC aO;have gR:=cz (f:=Vr.s) aO;have jl:=dO (bh++[v]) (by rw[aO,bA]);rw[xa] at jl;have hg:=hX.name v.name (df.vars.2 v (by show v∈vars;rw[aO];simp)).name;obtain⟨v1,v2,v3⟩:=v;exact wr Y<|wy Y af<|wo Y (ax gR rfl)<|wg 1 Y<|mw<|wl Y hg rfl<|wo Y oA<|wj jl
   exact wr Y<|wy Y af<|wo Y (ax ao Y)<|wg 1 Y<|nR<|wl Y sZ rfl<|wo Y (au (ch _ _))<|wj (kW vars [] rfl)
 have Am:∀(aa V:List Lk),lk=V++aa->Rn F X 39 3 [.sl (lk.map Lk.d),jD lk.length,jD V.length,.str nm,.sl (fl.map Fg.d),.sl (cs.map Cm.s)] (·=[.bool true]):=by
  intro aa
  induction aa with
  |nil=>
   intro V hp;rw[xj] at hp;subst hp;exact wr Y<|wn Y af<|wo Y (au (ch _ _))<|wj (GF cs [] rfl)
  |cons v aa ih=>
   intro V hp;have aE:=bC hp;have ao:=cz (f:=Lk.d) hp;have next:=ih (V++[v]) (by rw[hp,bA]);rw[xa] at next;have hl:=hf.links.2 v (by show v∈lk;rw[hp];simp);have g1:=hX.name v.src hl.src;have g2:=hX.name v.dst hl.dst;obtain⟨a,b,c⟩:=v;exact wr Y<|wy Y af<|wo Y (ax ao Y)<|wg 1 Y<|nR<|wl Y g1 rfl<|wl Y g2 rfl<|wo Y oA<|wj next
 have Az:∀(aa V:List Fg),fl=V++aa->Rn F X 39 1 [.sl (fl.map Fg.d),jD fl.length,jD V.length,.str nm,.sl (lk.map Lk.d),.sl (cs.map Cm.s)] (·=[.bool true]):=by
  intro aa
  induction aa with
  |nil=>
   intro V hp;rw[xj] at hp;subst hp;exact wr Y<|wn Y af<|wo Y (au (ch _ _))<|wj (Am lk [] rfl)
  |cons v aa ih=>
   intro V hp;have aE:=bC hp;have ao:=cz (f:=Fg.d) hp;have next:=ih (V++[v]) (by rw[hp,bA]);rw[xa] at next;have g1:=hX.name v.name (hf.flags.2 v (by show v∈fl;rw[hp];simp));obtain⟨a,b⟩:=v;cases b
   ·exact wr Y<|wy Y af<|wo Y (ax ao Y)<|wg 2 Y<|w9<|wl Y g1 rfl<|wo Y oA<|wj next
   ·exact wr Y<|wy Y af<|wo Y (ax ao Y)<|wg 1 Y<|w9<|wl Y g1 rfl<|wo Y oA<|wj next
 exact wr Y<|wl Y Av rfl<|wo Y (au (ch _ _))<|wj (Az fl [] rfl)
end
section
theorem WK(s:EH)(v:D):∀m:Ca,(um s v m).length<=m.length+1
 |[]=>xk _
 |row::t=>by
  unfold um;split
  ·simp
  ·have:=WK s v t;simp only [xi];omega
theorem aD0(hX:mN X)(hf:tw f):Rn F X 110 0 f.s (·=[.bool true]):=by
 have c27:=aS3 hX hf;obtain⟨nm,fl,lk,cs⟩:=f;have jw:1<=cs.length:=hf.comps.1;have qM:cs.length<=3:=hf.comps.2.1;have bK:fl.length<=2:=hf.flags.1;have hl9:lk.length<=9:=hf.links.1;have loop:∀(aa V:List Cm),cs=V++aa->Rn F X 110 1 [.sl (cs.map Cm.s),jD cs.length,jD V.length,.str nm,.sl (fl.map Fg.d),.sl (lk.map Lk.d)] (·=[.bool true]):=by
  intro aa
  induction aa with
  |nil=>
   intro V hp;rw[xj] at hp;subst hp;exact wr Y<|wn Y af<|wl Y c27 rfl<|wt Y Y
  |cons c aa ih=>
   intro V hp;have aE:=bC hp;have ao:=cz (f:=Cm.s) hp;have df:=hf.comps.2.2 c (by show c∈cs;rw[hp];simp);have next:=ih (V++[c]) (by rw[hp,bA]);rw[xa] at next;obtain⟨cn,vars,vs⟩:=c;have dJ:vs.length<=2:=df.vs.2;have lX:1<=vs.length:=df.vs.1;have Tc:vars.length<=5:=df.vars.1;have kW:∀(bW bh:Mm),vs=bh++bW->∀m:Ca,m.length<=3*bh.length->Rn F X 110 2 [.sl (cs.map Cm.s),jD cs.length,jD V.length,.sl (ca vs),jD vs.length,jD bh.length,.str nm,.sl (fl.map Fg.d),.sl (lk.map Lk.d),.sl m] (·=[.bool true]):=by
    intro bW
    induction bW with
    |nil=>
     intro bh aO m hm;rw[xj] at aO;subst aO;exact wr Y<|wn Y af<|wo Y bc<|wn Y bZ<|wo Y oA<|wj next
    |cons hs bW dO=>
     intro bh aO m hm;have r9:=bC aO;have gR:=cz (f:=fun l=>[D.sl (l.map Hn.s)]) aO;have hhs:=df.hs hs (by show hs∈vs;rw[aO];simp);have hh3:hs.length<=3:=hhs.1;have jl:=dO (bh++[hs]) (by rw[aO,bA]);rw[xa,show[hs].length=1 from Y] at jl;have mg:∀(dV bq:List Hn),hs=bq++dV->∀m:Ca,m.length<=3*bh.length+bq.length->Rn F X 110 3 [.sl (cs.map Cm.s),jD cs.length,jD V.length,.sl (ca vs),jD vs.length,jD bh.length,.sl (hs.map Hn.s),jD hs.length,jD bq.length,.str nm,.sl (fl.map Fg.d),.sl (lk.map Lk.d),.sl m] (·=[.bool true]):=by
      intro dV
      induction dV with
      |nil=>
       intro bq bF m hm;rw[xj] at bF;subst bF;exact wr Y<|wn Y af<|wo Y oA<|b_ Y (jl m MK)
      |cons h dV mB=>
       intro bq bF m hm;have vz:=bC bF;have gQ:=cz (f:=Hn.s) bF;have fA:=mB (bq++[h]) (by rw[bF,bA]);rw[xa,show[h].length=1 from Y] at fA;obtain⟨hn,ps,bd⟩:=h;have wi:aF .C6 [.sl m,.str hn,.bool true]=some (.sl (um hn (.bool true) m)):=rfl;have hul:=WK hn (.bool true) m;exact wr Y<|wy Y af<|wo Y (ax gQ rfl)<|wg 1 Y<|gV<|wo Y wi<|wo Y oA<|b_ Y (fA _ MK)
     have g3:=mg hs [] rfl m (by simpa using hm);exact wr Y<|wy Y af<|wo Y (ax gR rfl)<|wg 1 Y<|lS<|wo Y (au (ch _ _))<|wj g3
   have g2:=kW vs [] rfl [] (xk _);refine wr Y<|wy Y af<|wo Y (ax ao Y)<|wg 1 Y ?_;dsimp only [ew,Ex.r,St.r,c_,n_,kK,kJ,kI,kH,kG,Cm.s];exact wo Y (au (ch _ _))<|wo Y (au (ch _ _))<|wn Y bZ<|wn Y ay<|wn Y bZ<|wg 1 Y<|wo Y (au (ch _ _))<|wj g2
 have g:=loop cs [] rfl;exact wr Y<|wo Y (au (n:=cs.length) (ch _ _))<|wn Y ay<|wn Y bZ<|wo Y (au (n:=fl.length) (ch _ _))<|wn Y bZ<|wo Y (au (n:=lk.length) (ch _ _))<|wn Y bZ<|wo Y (au (n:=cs.length) (ch _ _))<|w8<|wj g
theorem Oc(hX:mN X)(hf:tw f):Rn F X 41 0 f.s (·=[iD 0]):=by
 have h1:=aD0 hX hf;have h2:=aF0 hX hf;have h3:=ay5 hX hf;obtain⟨nm,fl,lk,cs⟩:=f;exact wr Y<|wl Y h1 rfl<|wl Y h2 rfl<|wl Y h3 rfl<|wt Y Y
end
end Go.Proofs.YthicpeihkkokmaaGreatDoor
namespace Go.Fl
open Go.Ex
theorem qW{c c' k k':Nat}(h1:c<200)(h2:c'<200)(h3:k<200)(h4:k'<200)(h:nm c k=nm c' k'):c=c'/\k=k':=by
 simp only [nm,List.cons.injEq,and_true] at h;have e1:=congrArg UInt8.toNat h.1;have e2:=congrArg UInt8.toNat h.2;simp at e1 e2;omega
theorem qY{s:aq}(h:s∈GN):s.length<=6:=by
 have:∀s∈GN,s.length<=6:=Pp
 exact this s h
def ql(l:List Vr)(s:aq):Option Vr:=l.find? (fun v=>v.name==s)
def yw(l:List Cm)(s:aq):Option Cm:=l.find? (fun v=>v.name==s)
def pJ(l:Mm)(s:aq):Option Hn:=l.flatten.find? (fun v=>v.name==s)
def CT:Option Vr->List D|some v=>v.s++[.bool true]|none=>[.str [],bD 0,iD 0,.bool false]
def YG:Option Cm->List D|some v=>v.s++[.bool true]|none=>[.str [],.sl [],.sl [],.bool false]
def Py:Option Hn->List D|some v=>v.s++[.bool true]|none=>[.str [],.sl [],.sl [],.bool false]
def ud(l:List Fg)(s:aq):Bool:=l.any (fun v=>v.name==s)
theorem IZ{α:Type}{p:α->Bool}{V:List α}(h:∀a∈V,p a=false)(aa:List α):(V++aa).find? p=aa.find? p:=by
 induction V with
 |nil=>rfl
 |cons a V ih=>rw[c_,List.find?_cons,h a NS];exact ih (fun b hb=>h b (by simp[hb]))
end Go.Fl
namespace Go.Proofs.YthicpeihkkokmaaGreatDoor
open Go.Ex Go.RowKit Go.Fl
section
variable{X:Bv}
def SL(l:L5)(s:aq)(o:Di):Prop:=(s∈l/\∃i,o=[iD i]/\i<l.length/\l[i]? =some s)\/(s∉l/\o=[.int .i64 (-1)])
theorem vc{α:Type}{l V aa:List α}{a:α}(h:l=V++a::aa):l[V.length]? =some a:=by rw[h,xq (xk _),Nat.sub_self];rfl
theorem Co{l:L5}(hl:l.length<=1000)(s:aq):Rn F X 43 0 [.sl (strs l),.str s] (SL l s):=by
 have loop:∀(aa V:L5),l=V++aa->s∉V->Rn F X 43 1 [.sl (strs l),.str s,jD l.length,jD V.length] (SL l s):=by
  intro aa
  induction aa with
  |nil=>
   intro V hp hn;rw[xj] at hp;subst hp;exact wr Y<|wn Y af<|wt Y (.inr ⟨hn,rfl⟩)
  |cons a aa ih=>
   intro V hp hn;have aE:=bC hp;have ao:(strs l)[V.length]? =some [.str a]:=cz (f:=fun p:aq=>[D.str p]) hp;have bB6:=vc hp;by_cases hs:s=a
   ·subst hs;exact wr Y<|wy Y af<|wo Y (ax ao Y)<|wg 1 Y<|Wp.dt Y jk rfl<|wt Y (.inl ⟨by rw[hp];simp,V.length,rfl,MK,bB6⟩)
   ·have next:=ih (V++[a]) (by rw[hp,bA]) (by simp[hn,hs]);rw[xa] at next;exact wr Y<|wy Y af<|wo Y (ax ao Y)<|wg 1 Y<|Wp.c8 Y jk hs<|wo Y oA<|wj next
 exact wr Y<|wo Y (au (xm _))<|b_ Y (loop l [] rfl NS)
theorem wW{l:L5}(hl:l.length<=1000)(s:aq):Rn F X 42 0 [.sl (strs l),.str s] (·=[.bool (decide (s∈l))]):=by
 refine wr Y<|wg 1 Y<|wx Y (Co hl s) ?_;rintro _ (⟨hm,i,rfl,hi,_⟩|⟨hm,rfl⟩)
 ·refine⟨rfl,?_⟩;rw[u_ hm];exact wy Y eP<|wt Y Y
 ·refine⟨rfl,?_⟩;rw[f_ hm];exact wg 1 Y<|wt Y Y
theorem FC{l:List Fg}(hl:l.length<=1000)(s:aq):Rn F X 46 0 [.sl (l.map Fg.d),.str s] (·=[.bool (ud l s)]):=by
 have loop:∀(aa V:List Fg),l=V++aa->(∀x∈V,(x.name==s)=false)->Rn F X 44 1 [.sl (l.map Fg.d),.ptr [.str s] 0,jD l.length,jD V.length] (fun o=>(ud l s=true/\∃i:Nat,o=[iD i])\/(ud l s=false/\o=[.int .i64 (-1)])):=by
  intro aa
  induction aa with
  |nil=>
   intro V hp hn;rw[xj] at hp;subst hp;exact wr Y<|wn Y af<|wt Y (.inr ⟨List.any_eq_false.2 (fun x hx=>by rw[hn x hx];exact Bool.false_ne_true),rfl⟩)
  |cons a aa ih=>
   intro V hp hn;have aE:=bC hp;have ao:=cz (f:=Fg.d) hp;by_cases hs:a.name=s
   ·have BD:ud l s=true:=List.any_eq_true.2 ⟨a,by rw[hp];simp,by rw[hs];simp⟩;obtain⟨an,ab⟩:=a;cases ab
    ·exact wr Y<|wy Y af<|wo Y (ax ao Y)<|wg 2 Y<|w7<|wg 1 Y<|Wp.dt Y jk hs<|wt Y (.inl ⟨BD,V.length,rfl⟩)
    ·exact wr Y<|wy Y af<|wo Y (ax ao Y)<|wg 1 Y<|w7<|wg 1 Y<|Wp.dt Y jk hs<|wt Y (.inl ⟨BD,V.length,rfl⟩)
   ·have next:=ih (V++[a]) (by rw[hp,bA]) (fun x hx=>by
     rcases xF.1 hx with hx|hx
     ·exact hn x hx
     ·rw[xy] at hx;subst hx;simpa using hs)
    rw[xa] at next;obtain⟨an,ab⟩:=a;cases ab
    ·exact wr Y<|wy Y af<|wo Y (ax ao Y)<|wg 2 Y<|w7<|wg 1 Y<|Wp.c8 Y jk hs<|wo Y oA<|wj next
    ·exact wr Y<|wy Y af<|wo Y (ax ao Y)<|wg 1 Y<|w7<|wg 1 Y<|Wp.c8 Y jk hs<|wo Y oA<|wj next
 have ent:Rn F X 44 0 [.sl (l.map Fg.d),.ptr [.str s] 0] (fun o=>(ud l s=true/\∃i:Nat,o=[iD i])\/(ud l s=false/\o=[.int .i64 (-1)])):=by
  exact wr Y<|wo Y (au (ch _ _))<|b_ Y (loop l [] rfl (fun x hx=>by cases hx))
 refine wr Y<|wg 2 Y<|wx Y ent ?_;rintro _ (⟨hm,i,rfl⟩|⟨hm,rfl⟩)
 ·refine⟨rfl,?_⟩;rw[hm];exact wy Y eP<|wt Y Y
 ·refine⟨rfl,?_⟩;rw[hm];exact wg 1 Y<|wt Y Y
theorem wU{l:List Vr}(hl:l.length<=1000)(s:aq):Rn F X 47 0 [.sl (l.map Vr.s),.str s] (·=CT (ql l s)):=by
 have loop:∀(aa V:List Vr),l=V++aa->(∀x∈V,(x.name==s)=false)->Rn F X 47 1 [.str s,.sl (l.map Vr.s),jD l.length,jD V.length] (·=CT (ql l s)):=by
  intro aa
  induction aa with
  |nil=>
   intro V hp hn;rw[xj] at hp;subst hp;have hz:ql l s=none:=List.find?_eq_none.2 (fun x hx=>by rw[hn x hx];exact Bool.false_ne_true);rw[hz];exact wr Y<|wn Y af<|wt Y Y
  |cons a aa ih=>
   intro V hp hn;have aE:=bC hp;have ao:=cz (f:=Vr.s) hp;by_cases hs:a.name=s
   ·have hz:ql l s=some a:=by unfold ql;rw[hp,IZ hn,List.find?_cons,show(a.name==s)=true by rw[hs];simp]
    rw[hz];obtain⟨a1,a2,a3⟩:=a;exact wr Y<|wy Y af<|wo Y (ax ao Y)<|wg 1 Y<|w8<|Wp.dt Y jk hs<|wt Y Y
   ·have next:=ih (V++[a]) (by rw[hp,bA]) (fun x hx=>by
     rcases xF.1 hx with hx|hx
     ·exact hn x hx
     ·rw[xy] at hx;subst hx;simpa using hs)
    rw[xa] at next;obtain⟨a1,a2,a3⟩:=a;exact wr Y<|wy Y af<|wo Y (ax ao Y)<|wg 1 Y<|w8<|Wp.c8 Y jk hs<|wo Y oA<|wj next
 exact wr Y<|wo Y (au (ch _ _))<|b_ Y (loop l [] rfl (fun x hx=>by cases hx))
theorem It{l:List Cm}(hl:l.length<=1000)(s:aq):Rn F X 49 0 [.sl (l.map Cm.s),.str s] (·=YG (yw l s)):=by
 have loop:∀(aa V:List Cm),l=V++aa->(∀x∈V,(x.name==s)=false)->Rn F X 49 1 [.str s,.sl (l.map Cm.s),jD l.length,jD V.length] (·=YG (yw l s)):=by
  intro aa
  induction aa with
  |nil=>
   intro V hp hn;rw[xj] at hp;subst hp;have hz:yw l s=none:=List.find?_eq_none.2 (fun x hx=>by rw[hn x hx];exact Bool.false_ne_true);rw[hz];exact wr Y<|wn Y af<|wt Y Y
  |cons a aa ih=>
   intro V hp hn;have aE:=bC hp;have ao:=cz (f:=Cm.s) hp;by_cases hs:a.name=s
   ·have hz:yw l s=some a:=by unfold yw;rw[hp,IZ hn,List.find?_cons,show(a.name==s)=true by rw[hs];simp]
    rw[hz];obtain⟨a1,a2,a3⟩:=a;exact wr Y<|wy Y af<|wo Y (ax ao Y)<|wg 1 Y<|w8<|Wp.dt Y jk hs<|wt Y Y
   ·have next:=ih (V++[a]) (by rw[hp,bA]) (fun x hx=>by
     rcases xF.1 hx with hx|hx
     ·exact hn x hx
     ·rw[xy] at hx;subst hx;simpa using hs)
    rw[xa] at next;obtain⟨a1,a2,a3⟩:=a;exact wr Y<|wy Y af<|wo Y (ax ao Y)<|wg 1 Y<|w8<|Wp.c8 Y jk hs<|wo Y oA<|wj next
 exact wr Y<|wo Y (au (ch _ _))<|b_ Y (loop l [] rfl (fun x hx=>by cases hx))
theorem M4{l:Mm}(hl:l.length<=1000)(aL:∀v∈l,v.length<=1000)(s:aq):Rn F X 48 0 [.sl (ca l),.str s] (·=Py (pJ l s)):=by
 have loop:∀(aa V:Mm),l=V++aa->(∀x∈V.flatten,(x.name==s)=false)->Rn F X 48 1 [.str s,.sl (ca l),jD l.length,jD V.length] (·=Py (pJ l s)):=by
  intro aa
  induction aa with
  |nil=>
   intro V hp hn;rw[xj] at hp;subst hp;have hz:pJ l s=none:=List.find?_eq_none.2 (fun x hx=>by rw[hn x hx];exact Bool.false_ne_true);rw[hz];exact wr Y<|wn Y af<|wt Y Y
  |cons a aa ih=>
   intro V hp hn;have aE:=bC hp;have ao:(ca l)[V.length]? =some [.sl (a.map Hn.s)]:=cz (f:=fun l:List Hn=>[D.sl (l.map Hn.s)]) hp;have TG:=aL a (by rw[hp];simp);have next:=ih (V++[a]) (by rw[hp,bA]);rw[xa] at next;have Aq:∀(bW bh:List Hn),a=bh++bW->(∀x∈bh,(x.name==s)=false)->Rn F X 48 2 [.str s,.sl (ca l),jD l.length,jD V.length,.sl (a.map Hn.s),jD a.length,jD bh.length] (·=Py (pJ l s)):=by
    intro bW
    induction bW with
    |nil=>
     intro bh aO fj;rw[xj] at aO;subst aO;have next:=next (fun x hx=>by
      rw[List.flatten_append] at hx;rcases xF.1 hx with hx|hx
      ·exact hn x hx
      ·exact fj x (by simpa using hx))
     exact wr Y<|wn Y af<|wo Y oA<|wj next
    |cons b bW dO=>
     intro bh aO fj;have r9:=bC aO;have gR:=cz (f:=Hn.s) aO;by_cases hs:b.name=s
     ·have hz:pJ l s=some b:=by
       unfold pJ;rw[hp,List.flatten_append,IZ hn,List.flatten_cons,aO,a_,IZ fj,c_,List.find?_cons,show(b.name==s)=true by rw[hs];simp]
      rw[hz];obtain⟨b1,b2,b3⟩:=b;exact wr Y<|wy Y af<|wo Y (ax gR rfl)<|wg 1 Y<|dF<|Wp.dt Y jk hs<|wt Y Y
     ·have jl:=dO (bh++[b]) (by rw[aO,bA]) (fun x hx=>by
       rcases xF.1 hx with hx|hx
       ·exact fj x hx
       ·rw[xy] at hx;subst hx;simpa using hs)
      rw[xa] at jl;obtain⟨b1,b2,b3⟩:=b;exact wr Y<|wy Y af<|wo Y (ax gR rfl)<|wg 1 Y<|dF<|Wp.c8 Y jk hs<|wo Y oA<|wj jl
   exact wr Y<|wy Y af<|wo Y (ax ao Y)<|wg 1 Y<|w6<|wo Y (au (ch _ _))<|b_ Y (Aq a [] rfl (fun x hx=>by cases hx))
 exact wr Y<|wo Y (au (xm _))<|b_ Y (loop l [] rfl (fun x hx=>by cases hx))
abbrev fP(f:dj)(w:aq):Di:=[.str f.name,.sl (f.flags.map Fg.d),.sl (f.links.map Lk.d),.sl (f.comps.map Cm.s),.str w,.str [],.str [],iD 0]
theorem Nn(f:dj)(w n:aq):Rn F X 52 0 (fP f w++[iD 0,.str n]) (·= .bool true::fP f w):=by
 exact wr Y<|wg 3 Y<|wt Y Y
theorem GJ(f:dj)(w w':aq):Rn F X 53 0 (fP f w++[.str w']) (·= .bool true::fP f w'):=by
 exact wr Y<|wg 1 Y<|wt Y Y
theorem xP(f:dj)(w n:aq)(e:Nat):Rn F X 50 0 (fP f w++[iD e,.str n]) (·= .bool true::fP f w):=by
 exact wr Y<|wl Y (Nn f w n) rfl<|wt Y Y
end
end Go.Proofs.YthicpeihkkokmaaGreatDoor
