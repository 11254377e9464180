/- What these functions answer. -/
import Derived.Test.YthicpeihkkokmaaGreatDoorP3
set_option linter.unusedVariables false
set_option linter.unusedSimpArgs false
set_option maxHeartbeats 4000000
set_option maxRecDepth 100000
namespace Go.Proofs.YthicpeihkkokmaaGreatDoor
open Go.Ex Go.RowKit Go.Fl
variable{X:a0a}{e:Fl.Ex}{l:a0p}{h:Hn}{f:dg}
structure m8 (X:a0a):Prop where
 name:∀s∈GN,Rn F X 109 0 [.str s] (·=[.bool true])
section
theorem aw6(hX:m8 X)(hn:gV e):Rn F X 30 0 [.ptr (Ex.s e) 0] (·=[.bool true]):=by
 obtain⟨op,name,n,args⟩:=e;obtain⟨h1,h2,h3,h4,h5⟩:=hn.get;have eu:=yI (X:=X) h1 h2;rcases h5 with⟨a,b,hm⟩|⟨a,rfl⟩
 ·rw[show wF op=true from u_ ⟨a,b⟩] at eu;have ii:=hX.name name hm;exact wr Y<|wg 3 Y<|wl Y eu rfl<|w9<|wg 3 Y<|wl Y ii rfl<|mS<|wt Y Y
 ·rw[show wF op=false from f_ a0B] at eu;exact wr Y<|wg 3 Y<|wl Y eu rfl<|w9<|wt Y Y
theorem av7(hn:gV e):Rn F X 31 0 [.ptr (Ex.s e) 0] (·=[.bool true]):=by
 obtain⟨op,name,n,args⟩:=e;obtain⟨h1,h2,h3,h4,h5⟩:=hn.get;have eu:=yI (X:=X) h1 h2;have hl:=gF args;rcases h5 with⟨a,b,hm⟩|⟨a,rfl⟩
 ·rw[show wF op=true from u_ ⟨a,b⟩] at eu;exact wr Y<|wg 3 Y<|wl Y eu rfl<|w9<|wg 3 Y<|wo Y bf<|mS<|wn Y gP<|wg 3 Y<|wn Y ay<|wg 1 Y<|hZ<|wg 2 Y<|wy Y ay<|wt Y Y
 ·rw[show wF op=false from f_ a0B] at eu;rcases h4 with⟨rfl,h4⟩|⟨h6,rfl⟩
  ·exact wr Y<|wg 3 Y<|wl Y eu rfl<|w9<|wg 3 Y<|wo Y bf<|mS<|Wp.dF Y gP (by rw[hl,h3];simp)<|wg 5 Y<|hZ<|wg 5 Y<|jy<|wg 1 Y<|wy Y fp<|wt Y Y
  ·exact wr Y<|wg 3 Y<|wl Y eu rfl<|w9<|wg 3 Y<|wo Y bf<|mS<|wn Y gP<|wg 5 Y<|hZ<|wg 2 Y<|wn Y ay<|wg 2 Y<|jy<|wg 2 Y<|wt Y Y
theorem aC5(hX:m8 X)(h:jK gV e):Rn F X 20 0 [.ptr (Ex.s e) 0] (·=[.bool true]):=by
 induction h with
 | @mk op name n args hn ha ih=>
  obtain⟨h1,h2,h3,h4,h5⟩:=hn.get;have ek:jM op<=2:=by unfold jM;split<;>(try split)<;>omega
  have hg:=aw6 (X:=X) hX hn;have loop:∀(aa V:List Fl.Ex),args=V++aa->Rn F X 20 1 [.ptr (Ex.s ⟨op,name,n,args⟩) 0,jD args.length,jD V.length] (·=[.bool true]):=by
   intro aa
   induction aa with
   |nil=>
    intro V hp;rw[xj] at hp;subst hp;exact wr Y<|wn Y ai<|wt Y Y
   |cons a aa cX=>
    intro V hp;have aD:=bG hp;have ao:(Ex.ss args)[V.length]? =some (Ex.s a):=by rw[hp];exact qF _ _ _
    have nS:=ih a (by rw[hp];simp);have:=cX (V++[a]) (by rw[hp,bw]);rw[xa] at this;obtain⟨o1,n1,i1,a1⟩:=a;exact wr Y<|wy Y ai<|wg 3 Y<|wo Y (aA ao Y)<|w7<|wl Y nS rfl<|wo Y oA<|wj this
  exact wr Y<|wl Y hg rfl<|wg 3 Y<|w5<|wo Y (az (gF _))<|wj (loop args [] rfl)
theorem aC4(h:jK gV e):Rn F X 21 0 [.ptr (Ex.s e) 0] (·=[.bool true]):=by
 induction h with
 | @mk op name n args hn ha ih=>
  obtain⟨h1,h2,h3,h4,h5⟩:=hn.get;have ek:jM op<=2:=by unfold jM;split<;>(try split)<;>omega
  have hg:=av7 (X:=X) hn;have loop:∀(aa V:List Fl.Ex),args=V++aa->Rn F X 21 1 [.ptr (Ex.s ⟨op,name,n,args⟩) 0,jD args.length,jD V.length] (·=[.bool true]):=by
   intro aa
   induction aa with
   |nil=>
    intro V hp;rw[xj] at hp;subst hp;exact wr Y<|wn Y ai<|wt Y Y
   |cons a aa cX=>
    intro V hp;have aD:=bG hp;have ao:(Ex.ss args)[V.length]? =some (Ex.s a):=by rw[hp];exact qF _ _ _
    have nS:=ih a (by rw[hp];simp);have:=cX (V++[a]) (by rw[hp,bw]);rw[xa] at this;obtain⟨o1,n1,i1,a1⟩:=a;exact wr Y<|wy Y ai<|wg 3 Y<|wo Y (aA ao Y)<|w7<|wl Y nS rfl<|wo Y oA<|wj this
  exact wr Y<|wl Y hg rfl<|wg 3 Y<|w5<|wo Y (az (gF _))<|wj (loop args [] rfl)
theorem aT8(hX:m8 X){s:St}(hs:jR s):Rn F X 22 0 [.ptr (St.s s) 0] (·=[.bool true]):=by
 obtain⟨kind,name,cf,bh,th,el⟩:=s;have fX:bh.length<=3:=by have:=hs.ln;omega
 have loop:∀(aa V:List Fl.Ex),bh=V++aa->Rn F X 22 1 [.ptr (St.s ⟨kind,name,cf,bh,th,el⟩) 0,jD bh.length,jD V.length] (·=[.bool true]):=by
  intro aa
  induction aa with
  |nil=>
   intro V hp;rw[xj] at hp;subst hp;exact wr Y<|wn Y ai<|wt Y Y
  |cons a aa cX=>
   intro V hp;have aD:=bG hp;have ao:(Ex.ss bh)[V.length]? =some (Ex.s a):=by rw[hp];exact qF _ _ _
   have ha:=hs.ex a (by rw[hp];simp);have CS:=ha.2;have nS:=aC5 (X:=X) hX ha.1;have:=cX (V++[a]) (by rw[hp,bw]);rw[xa] at this;obtain⟨o1,n1,i1,a1⟩:=a;exact wr Y<|wy Y ai<|wg 3 Y<|wo Y (aA ao Y)<|w7<|wl Y nS rfl<|wo Y oA<|wj this
 exact wr Y<|wg 3 Y<|wo Y (az (gF _))<|w5<|wj (loop bh [] rfl)
theorem aT7{s:St}(hs:jR s):Rn F X 23 0 [.ptr (St.s s) 0] (·=[.bool true]):=by
 obtain⟨kind,name,cf,bh,th,el⟩:=s;have fX:bh.length<=3:=by have:=hs.ln;omega
 have loop:∀(aa V:List Fl.Ex),bh=V++aa->Rn F X 23 1 [.ptr (St.s ⟨kind,name,cf,bh,th,el⟩) 0,jD bh.length,jD V.length] (·=[.bool true]):=by
  intro aa
  induction aa with
  |nil=>
   intro V hp;rw[xj] at hp;subst hp;exact wr Y<|wn Y ai<|wt Y Y
  |cons a aa cX=>
   intro V hp;have aD:=bG hp;have ao:(Ex.ss bh)[V.length]? =some (Ex.s a):=by rw[hp];exact qF _ _ _
   have ha:=hs.ex a (by rw[hp];simp);have CS:=ha.2;have nS:=aC4 (X:=X) ha.1;have:=cX (V++[a]) (by rw[hp,bw]);rw[xa] at this;obtain⟨o1,n1,i1,a1⟩:=a;exact wr Y<|wy Y ai<|wg 3 Y<|wo Y (aA ao Y)<|w7<|wl Y nS rfl<|wo Y oA<|wj this
 exact wr Y<|wg 3 Y<|wo Y (az (gF _))<|w5<|wj (loop bh [] rfl)
theorem bf4{s:St}(hs:jR s):Rn F X 34 0 [.ptr (St.s s) 0] (·=[.bool true]):=by
 obtain⟨kind,name,cf,bh,th,el⟩:=s;have fX:bh.length<=3:=by have:=hs.ln;omega
 have loop:∀(aa V:List Fl.Ex),bh=V++aa->Rn F X 34 1 [.sl (Ex.ss bh),jD bh.length,jD V.length] (·=[.bool true]):=by
  intro aa
  induction aa with
  |nil=>
   intro V hp;rw[xj] at hp;subst hp;exact wr Y<|wn Y ai<|wt Y Y
  |cons a aa cX=>
   intro V hp;have aD:=bG hp;have ao:(Ex.ss bh)[V.length]? =some (Ex.s a):=by rw[hp];exact qF _ _ _
   have ha:=hs.ex a (by rw[hp];simp);have CS:=ha.2;have nS:=aC3 (X:=X) ha.1 a0B;have:=cX (V++[a]) (by rw[hp,bw]);rw[xa] at this;obtain⟨o1,n1,i1,a1⟩:=a;exact wr Y<|wy Y ai<|wo Y (aA ao Y)<|wg 1 Y<|w8<|wl Y nS rfl<|wn Y cg<|wo Y oA<|wj this
 exact wr Y<|wg 3 Y<|wo Y (az (gF _))<|w5<|wj (loop bh [] rfl)
theorem aw5(hX:m8 X){s:St}(hs:jR s):Rn F X 32 0 [.ptr (St.s s) 0] (·=[.bool true]):=by
 have hw:=aT8 hX hs;obtain⟨kind,name,cf,bh,th,el⟩:=s;have hf:=YN (X:=X) hs.k1 hs.vl;have k1:=hs.k1;have vl:=hs.vl;have key:∀k,kind=k->Rn F X 32 0 [.ptr (St.s ⟨kind,name,cf,bh,th,el⟩) 0] (·=[.bool true]):=by
  intro k hk;have ii:((kind=1\/kind=2\/kind=3\/kind=6\/kind=9)->Rn F X 109 0 [.str name] (·=[.bool true])):=fun h=>by
   rcases hs.nm with⟨_,h2⟩|⟨h1,_⟩
   ·exact hX.name _ h2
   ·omega
  have ub:(kind=6\/kind=7)->Rn F X 109 0 [.str cf] (·=[.bool true]):=fun h=>by
   rcases hs.hn with⟨_,h2⟩|⟨h1,_⟩
   ·exact hX.name _ h2
   ·omega
  have:kind=1\/kind=2\/kind=3\/kind=4\/kind=5\/kind=6\/kind=7\/kind=8\/kind=9\/kind=10:=a0B
  rcases this with rfl|rfl|rfl|rfl|rfl|rfl|rfl|rfl|rfl|rfl
  ·have hf:Rn F X 19 0 [bD 1] (·=[.bool true,.bool false,iD 1,iD 1,.bool false,.bool false,.bool true]):=hf;exact wr Y<|wg 3 Y<|wl Y hf rfl<|dC<|wg 3 Y<|wl Y (ii a0B) rfl<|ei<|wl Y hw rfl<|wt Y Y
  ·have hf:Rn F X 19 0 [bD 2] (·=[.bool true,.bool false,iD 2,iD 2,.bool false,.bool false,.bool true]):=hf;exact wr Y<|wg 3 Y<|wl Y hf rfl<|dC<|wg 3 Y<|wl Y (ii a0B) rfl<|ei<|wl Y hw rfl<|wt Y Y
  ·have hf:Rn F X 19 0 [bD 3] (·=[.bool true,.bool false,iD 1,iD 1,.bool false,.bool false,.bool true]):=hf;exact wr Y<|wg 3 Y<|wl Y hf rfl<|dC<|wg 3 Y<|wl Y (ii a0B) rfl<|ei<|wl Y hw rfl<|wt Y Y
  ·have hf:Rn F X 19 0 [bD 4] (·=[.bool false,.bool false,iD 1,iD 1,.bool true,.bool true,.bool true]):=hf;exact wr Y<|wg 3 Y<|wl Y hf rfl<|dC<|wl Y hw rfl<|wt Y Y
  ·have hf:Rn F X 19 0 [bD 5] (·=[.bool false,.bool false,iD 1,iD 1,.bool true,.bool false,.bool true]):=hf;exact wr Y<|wg 3 Y<|wl Y hf rfl<|dC<|wl Y hw rfl<|wt Y Y
  ·have hf:Rn F X 19 0 [bD 6] (·=[.bool true,.bool true,iD 0,iD 4,.bool false,.bool false,.bool true]):=hf;exact wr Y<|wg 3 Y<|wl Y hf rfl<|dC<|wg 3 Y<|wl Y (ii a0B) rfl<|ei<|wg 3 Y<|wl Y (ub a0B) rfl<|gS<|wl Y hw rfl<|wt Y Y
  ·have hf:Rn F X 19 0 [bD 7] (·=[.bool false,.bool true,iD 1,iD 5,.bool false,.bool false,.bool true]):=hf;exact wr Y<|wg 3 Y<|wl Y hf rfl<|dC<|wg 3 Y<|wl Y (ub a0B) rfl<|ei<|wl Y hw rfl<|wt Y Y
  ·have hf:Rn F X 19 0 [bD 8] (·=[.bool false,.bool false,iD 2,iD 2,.bool false,.bool true,.bool true]):=hf;exact wr Y<|wg 3 Y<|wl Y hf rfl<|dC<|wl Y hw rfl<|wt Y Y
  ·have hf:Rn F X 19 0 [bD 9] (·=[.bool true,.bool false,iD 1,iD 1,.bool false,.bool true,.bool true]):=hf;exact wr Y<|wg 3 Y<|wl Y hf rfl<|dC<|wg 3 Y<|wl Y (ii a0B) rfl<|ei<|wl Y hw rfl<|wt Y Y
  ·have hf:Rn F X 19 0 [bD 10] (·=[.bool false,.bool false,iD 0,iD 0,.bool false,.bool false,.bool true]):=hf;exact wr Y<|wg 3 Y<|wl Y hf rfl<|dC<|wl Y hw rfl<|wt Y Y
 exact key kind rfl
theorem av6{s:St}(hs:jR s):Rn F X 33 0 [.ptr (St.s s) 0] (·=[.bool true]):=by
 have hw:=aT7 (X:=X) hs;obtain⟨kind,name,cf,bh,th,el⟩:=s;have hf:=YN (X:=X) hs.k1 hs.vl;have k1:=hs.k1;have vl:=hs.vl;have ii:=hs.nm;have ub:=hs.hn;have UD:=hs.ln;have li:=hs.thn;have fX:=hs.eln;have hl:=gF bh;have:kind=1\/kind=2\/kind=3\/kind=4\/kind=5\/kind=6\/kind=7\/kind=8\/kind=9\/kind=10:=a0B
 rcases this with rfl|rfl|rfl|rfl|rfl|rfl|rfl|rfl|rfl|rfl
 ·obtain rfl:cf=[]:=by rcases ub with⟨h,_⟩|⟨_,h⟩;omega;exact h
  obtain rfl:th=[]:=by rcases li with h|h|h;omega;omega;exact h
  obtain rfl:el=[]:=by rcases fX with h|h|h|h;omega;omega;omega;exact h
  have hf:Rn F X 19 0 [bD 1] (·=[.bool true,.bool false,iD 1,iD 1,.bool false,.bool false,.bool true]):=hf;exact wr Y<|wg 3 Y<|wl Y hf rfl<|dC<|wg 3 Y<|wo Y bf<|ei<|wn Y ai<|wn Y cg<|wg 5 Y<|gS<|wg 2 Y<|wo Y bf<|wg 2 Y<|qi<|wg 2 Y<|wo Y bf<|wg 1 Y<|wl Y hw rfl<|jL<|wt Y Y
 ·obtain rfl:cf=[]:=by rcases ub with⟨h,_⟩|⟨_,h⟩;omega;exact h
  obtain rfl:th=[]:=by rcases li with h|h|h;omega;omega;exact h
  obtain rfl:el=[]:=by rcases fX with h|h|h|h;omega;omega;omega;exact h
  have hf:Rn F X 19 0 [bD 2] (·=[.bool true,.bool false,iD 2,iD 2,.bool false,.bool false,.bool true]):=hf;exact wr Y<|wg 3 Y<|wl Y hf rfl<|dC<|wg 3 Y<|wo Y bf<|ei<|wn Y ai<|wn Y cg<|wg 5 Y<|gS<|wg 2 Y<|wo Y bf<|wg 2 Y<|qi<|wg 2 Y<|wo Y bf<|wg 1 Y<|wl Y hw rfl<|jL<|wt Y Y
 ·obtain rfl:cf=[]:=by rcases ub with⟨h,_⟩|⟨_,h⟩;omega;exact h
  obtain rfl:th=[]:=by rcases li with h|h|h;omega;omega;exact h
  obtain rfl:el=[]:=by rcases fX with h|h|h|h;omega;omega;omega;exact h
  have hf:Rn F X 19 0 [bD 3] (·=[.bool true,.bool false,iD 1,iD 1,.bool false,.bool false,.bool true]):=hf;exact wr Y<|wg 3 Y<|wl Y hf rfl<|dC<|wg 3 Y<|wo Y bf<|ei<|wn Y ai<|wn Y cg<|wg 5 Y<|gS<|wg 2 Y<|wo Y bf<|wg 2 Y<|qi<|wg 2 Y<|wo Y bf<|wg 1 Y<|wl Y hw rfl<|jL<|wt Y Y
 ·obtain rfl:name=[]:=by rcases ii with⟨h,_⟩|⟨_,h⟩;omega;exact h
  obtain rfl:cf=[]:=by rcases ub with⟨h,_⟩|⟨_,h⟩;omega;exact h
  have hf:Rn F X 19 0 [bD 4] (·=[.bool false,.bool false,iD 1,iD 1,.bool true,.bool true,.bool true]):=hf;exact wr Y<|wg 3 Y<|wl Y hf rfl<|dC<|wg 3 Y<|wo Y bf<|ei<|wn Y ai<|wn Y cg<|wg 5 Y<|gS<|wg 3 Y<|wl Y hw rfl<|wt Y Y
 ·obtain rfl:name=[]:=by rcases ii with⟨h,_⟩|⟨_,h⟩;omega;exact h
  obtain rfl:cf=[]:=by rcases ub with⟨h,_⟩|⟨_,h⟩;omega;exact h
  obtain rfl:el=[]:=by rcases fX with h|h|h|h;omega;omega;omega;exact h
  have hf:Rn F X 19 0 [bD 5] (·=[.bool false,.bool false,iD 1,iD 1,.bool true,.bool false,.bool true]):=hf;exact wr Y<|wg 3 Y<|wl Y hf rfl<|dC<|wg 3 Y<|wo Y bf<|ei<|wn Y ai<|wn Y cg<|wg 5 Y<|gS<|wg 5 Y<|qi<|wg 1 Y<|wo Y bf<|wg 1 Y<|wl Y hw rfl<|wt Y Y
 ·obtain rfl:th=[]:=by rcases li with h|h|h;omega;omega;exact h
  obtain rfl:el=[]:=by rcases fX with h|h|h|h;omega;omega;omega;exact h
  have hf:Rn F X 19 0 [bD 6] (·=[.bool true,.bool true,iD 0,iD 4,.bool false,.bool false,.bool true]):=hf;exact wr Y<|wg 3 Y<|wl Y hf rfl<|dC<|wg 3 Y<|wo Y bf<|ei<|wn Y ai<|wn Y cg<|wg 3 Y<|wo Y bf<|gS<|wg 4 Y<|wo Y bf<|qi<|wg 1 Y<|wl Y hw rfl<|wt Y Y
 ·obtain rfl:name=[]:=by rcases ii with⟨h,_⟩|⟨_,h⟩;omega;exact h
  obtain rfl:th=[]:=by rcases li with h|h|h;omega;omega;exact h
  obtain rfl:el=[]:=by rcases fX with h|h|h|h;omega;omega;omega;exact h
  have hf:Rn F X 19 0 [bD 7] (·=[.bool false,.bool true,iD 1,iD 5,.bool false,.bool false,.bool true]):=hf;exact wr Y<|wg 3 Y<|wl Y hf rfl<|dC<|wg 3 Y<|wo Y bf<|ei<|wn Y ai<|wn Y cg<|wg 5 Y<|gS<|wg 2 Y<|wo Y bf<|wg 2 Y<|qi<|wg 2 Y<|wo Y bf<|wg 1 Y<|wl Y hw rfl<|jL<|wt Y Y
 ·obtain rfl:name=[]:=by rcases ii with⟨h,_⟩|⟨_,h⟩;omega;exact h
  obtain rfl:cf=[]:=by rcases ub with⟨h,_⟩|⟨_,h⟩;omega;exact h
  obtain rfl:th=[]:=by rcases li with h|h|h;omega;omega;exact h
  have hf:Rn F X 19 0 [bD 8] (·=[.bool false,.bool false,iD 2,iD 2,.bool false,.bool true,.bool true]):=hf;exact wr Y<|wg 3 Y<|wl Y hf rfl<|dC<|wg 3 Y<|wo Y bf<|ei<|wn Y ai<|wn Y cg<|wg 5 Y<|gS<|wg 5 Y<|qi<|wg 1 Y<|wo Y bf<|wg 1 Y<|wl Y hw rfl<|wt Y Y
 ·obtain rfl:cf=[]:=by rcases ub with⟨h,_⟩|⟨_,h⟩;omega;exact h
  obtain rfl:th=[]:=by rcases li with h|h|h;omega;omega;exact h
  have hf:Rn F X 19 0 [bD 9] (·=[.bool true,.bool false,iD 1,iD 1,.bool false,.bool true,.bool true]):=hf;exact wr Y<|wg 3 Y<|wl Y hf rfl<|dC<|wg 3 Y<|wo Y bf<|ei<|wn Y ai<|wn Y cg<|wg 5 Y<|gS<|wg 2 Y<|wo Y bf<|wg 1 Y<|wl Y hw rfl<|qi<|wt Y Y
 ·obtain rfl:name=[]:=by rcases ii with⟨h,_⟩|⟨_,h⟩;omega;exact h
  obtain rfl:cf=[]:=by rcases ub with⟨h,_⟩|⟨_,h⟩;omega;exact h
  obtain rfl:th=[]:=by rcases li with h|h|h;omega;omega;exact h
  obtain rfl:el=[]:=by rcases fX with h|h|h|h;omega;omega;omega;exact h
  have hf:Rn F X 19 0 [bD 10] (·=[.bool false,.bool false,iD 0,iD 0,.bool false,.bool false,.bool true]):=hf;exact wr Y<|wg 3 Y<|wl Y hf rfl<|dC<|wg 3 Y<|wo Y bf<|ei<|wn Y ai<|wn Y cg<|wg 5 Y<|gS<|wg 5 Y<|qi<|wg 1 Y<|wo Y bf<|wg 3 Y<|jL<|wg 1 Y<|wo Y bf<|wg 1 Y<|wl Y hw rfl<|wt Y Y
theorem bn5(hl:l.length<=12)(h:∀s∈l,dM jR s):Rn F X 24 0 [.sl (St.ss l)] (·=[.bool true]):=by
 refine dM.list (P:=fun l=>Rn F X 24 0 [.sl (St.ss l)] (·=[.bool true])) ?_ hl h;clear hl h;intro l hl h;have loop:∀(aa V:a0p),l=V++aa->Rn F X 24 1 [.sl (St.ss l),jD l.length,jD V.length] (·=[.bool true]):=by
  intro aa
  induction aa with
  |nil=>
   intro V hp;rw[xj] at hp;subst hp;exact wr Y<|wn Y ai<|wt Y Y
  |cons a aa cX=>
   intro V hp;have aD:=bG hp;have ao:(St.ss l)[V.length]? =some (St.s a):=by rw[hp];exact vV _ _ _
   obtain⟨ha,hs⟩:=h a (by rw[hp];simp);have hg:=bf4 (X:=X) ha;have:=cX (V++[a]) (by rw[hp,bw]);rw[xa] at this;obtain⟨kind,name,cf,bh,th,el⟩:=a;obtain⟨df,cL⟩:=hs;exact wr Y<|wy Y ai<|wo Y (aA ao Y)<|wl Y hg rfl<|wg 2 Y<|w7<|wg 1 Y<|wl Y df rfl<|wg 2 Y<|dC<|wg 1 Y<|wl Y cL rfl<|wo Y oA<|wj this
 exact wr Y<|wo Y (az (mC _))<|wj (loop l [] rfl)
theorem bn4(hX:m8 X)(hl:l.length<=12)(h:∀s∈l,dM jR s):Rn F X 25 0 [.sl (St.ss l)] (·=[.bool true]):=by
 refine dM.list (P:=fun l=>Rn F X 25 0 [.sl (St.ss l)] (·=[.bool true])) ?_ hl h;clear hl h;intro l hl h;have loop:∀(aa V:a0p),l=V++aa->Rn F X 25 1 [.sl (St.ss l),jD l.length,jD V.length] (·=[.bool true]):=by
  intro aa
  induction aa with
  |nil=>
   intro V hp;rw[xj] at hp;subst hp;exact wr Y<|wn Y ai<|wt Y Y
  |cons a aa cX=>
   intro V hp;have aD:=bG hp;have ao:(St.ss l)[V.length]? =some (St.s a):=by rw[hp];exact vV _ _ _
   obtain⟨ha,hs⟩:=h a (by rw[hp];simp);have hg:=aw5 (X:=X) hX ha;have:=cX (V++[a]) (by rw[hp,bw]);rw[xa] at this;obtain⟨kind,name,cf,bh,th,el⟩:=a;obtain⟨df,cL⟩:=hs;exact wr Y<|wy Y ai<|wo Y (aA ao Y)<|wl Y hg rfl<|wg 2 Y<|w7<|wg 1 Y<|wl Y df rfl<|wg 2 Y<|dC<|wg 1 Y<|wl Y cL rfl<|wo Y oA<|wj this
 exact wr Y<|wo Y (az (mC _))<|wj (loop l [] rfl)
theorem bn3(hl:l.length<=12)(h:∀s∈l,dM jR s):Rn F X 26 0 [.sl (St.ss l)] (·=[.bool true]):=by
 refine dM.list (P:=fun l=>Rn F X 26 0 [.sl (St.ss l)] (·=[.bool true])) ?_ hl h;clear hl h;intro l hl h;have loop:∀(aa V:a0p),l=V++aa->Rn F X 26 1 [.sl (St.ss l),jD l.length,jD V.length] (·=[.bool true]):=by
  intro aa
  induction aa with
  |nil=>
   intro V hp;rw[xj] at hp;subst hp;exact wr Y<|wn Y ai<|wt Y Y
  |cons a aa cX=>
   intro V hp;have aD:=bG hp;have ao:(St.ss l)[V.length]? =some (St.s a):=by rw[hp];exact vV _ _ _
   obtain⟨ha,hs⟩:=h a (by rw[hp];simp);have hg:=av6 (X:=X) ha;have:=cX (V++[a]) (by rw[hp,bw]);rw[xa] at this;obtain⟨kind,name,cf,bh,th,el⟩:=a;obtain⟨df,cL⟩:=hs;exact wr Y<|wy Y ai<|wo Y (aA ao Y)<|wl Y hg rfl<|wg 2 Y<|w7<|wg 1 Y<|wl Y df rfl<|wg 2 Y<|dC<|wg 1 Y<|wl Y cL rfl<|wo Y oA<|wj this
 exact wr Y<|wo Y (az (mC _))<|wj (loop l [] rfl)
end
section
theorem au7(hX:m8 X)(hh:C9 h):Rn F X 35 0 h.s (·=[.bool true]):=by
 obtain⟨name,params,body⟩:=h;have hp:params.length<=2:=hh.params.1;have h12:St.ns body<=12:=hh.n;have hd:St.eF body<=4:=hh.dp;have c1:=aK9 (X:=X) 12 body h12 (xk _);have c2:=aQ6 (X:=X) 12 body h12 (xk _) a0B;have c3:=bn5 (X:=X) hh.len hh.body;have gd:(strs params).length=params.length:=xm _;show Rn F X 35 0 [.str name,.sl (strs params),.sl (St.ss body)] _;exact wr Y<|wo Y bf<|wn Y cg<|wl Y c1 Y<|wn Y cg<|wl Y c2 Y<|wn Y cg<|wl Y c3 Y<|w7<|wt Y Y
theorem au8(hX:m8 X)(hh:C9 h):Rn F X 36 0 h.s (·=[.bool true]):=by
 obtain⟨name,params,body⟩:=h;have hp:params.length<=2:=hh.params.1;have hn:=hX.name name hh.name;have c3:=bn4 hX hh.len hh.body;have gd:(strs params).length=params.length:=xm _;have loop:∀(aa V:a0s),params=V++aa->Rn F X 36 1 [.sl (strs params),jD params.length,jD V.length,.str name,.sl (St.ss body)] (·=[.bool true]):=by
  intro aa
  induction aa with
  |nil=>
   intro V hp;rw[xj] at hp;subst hp;exact wr Y<|wn Y ai<|wl Y c3 Y<|wt Y Y
  |cons a aa cX=>
   intro V aJ;have aD:=bG aJ;have ao:(strs params)[V.length]? =some [.str a]:=cA (f:=fun p:aq=>[D.str p]) aJ;have ha:=hX.name a (hh.params.2 a (by show a∈params;rw[aJ];simp));have:=cX (V++[a]) (by rw[aJ,bw]);rw[xa] at this;exact wr Y<|wy Y ai<|wo Y (aA ao Y)<|wg 1 Y<|wl Y ha rfl<|wo Y oA<|w9<|wj this
 exact wr Y<|wl Y hn rfl<|wo Y (az gd)<|wj (loop params [] rfl)
theorem au5(hX:m8 X)(hh:C9 h):Rn F X 37 0 h.s (·=[.bool true]):=by
 obtain⟨name,params,body⟩:=h;have c3:=bn3 (X:=X) hh.len hh.body;exact wr Y<|wl Y c3 Y<|wt Y Y
theorem ax0{v:Vr}(hv:VrS v):Rn F X 38 0 v.s (·=[.bool true]):=by
 obtain⟨name,type,init⟩:=v;have ht:=hv.type;simp only at ht;rcases ht with⟨rfl,h⟩|⟨rfl|rfl,rfl⟩
 ·exact wr Y<|wg 1 Y<|wy Y gP<|wt Y Y
 ·exact wr Y<|wg 3 Y<|wt Y Y
 ·exact wr Y<|wg 4 Y<|wt Y Y
theorem bb5(hX:m8 X)(hf:uj f):Rn F X 27 0 f.s (·=[.bool true]):=by
 obtain⟨nm,fl,lk,cs⟩:=f;have rB:cs.length<=3:=hf.comps.2.1;have loop:∀(aa V:List Cm),cs=V++aa->Rn F X 27 1 [.sl (cs.map Cm.s),jD cs.length,jD V.length] (·=[.bool true]):=by
  intro aa
  induction aa with
  |nil=>
   intro V hp;rw[xj] at hp;subst hp;exact wr Y<|wn Y ai<|wt Y Y
  |cons c aa ih=>
   intro V hp;have aD:=bG hp;have ao:=cA (f:=Cm.s) hp;have cJ:=hf.comps.2.2 c (by show c∈cs;rw[hp];simp);have next:=ih (V++[c]) (by rw[hp,bw]);rw[xa] at next;obtain⟨cn,vars,vs⟩:=c;have dK:vs.length<=2:=cJ.vs.2;have lF:∀(bX bj:a0y),vs=bj++bX->Rn F X 27 2 [.sl (cs.map Cm.s),jD cs.length,jD V.length,.sl (ca vs),jD vs.length,jD bj.length] (·=[.bool true]):=by
    intro bX
    induction bX with
    |nil=>
     intro bj aO;rw[xj] at aO;subst aO;exact wr Y<|wn Y ai<|wo Y oA<|wj next
    |cons v bX dT=>
     intro bj aO;have s8:=bG aO;have ji:(ca vs)[bj.length]? =some [.sl (v.map Hn.s)]:=cA (f:=fun l:List Hn=>[D.sl (l.map Hn.s)]) aO;have jH:=dT (bj++[v]) (by rw[aO,bw]);rw[xa] at jH;have hv:=cJ.hs v (by show v∈vs;rw[aO];simp);have mq:=hv.1;have mJ:∀(ee bt:List Hn),v=bt++ee->Rn F X 27 3 [.sl (cs.map Cm.s),jD cs.length,jD V.length,.sl (ca vs),jD vs.length,jD bj.length,.sl (v.map Hn.s),jD v.length,jD bt.length] (·=[.bool true]):=by
      intro ee
      induction ee with
      |nil=>
       intro bt bH;rw[xj] at bH;subst bH;exact wr Y<|wn Y ai<|wo Y oA<|wj jH
      |cons h ee mV=>
       intro bt bH;have ww:=bG bH;have gW:=cA (f:=Hn.s) bH;have fQ:=mV (bt++[h]) (by rw[bH,bw]);rw[xa] at fQ;have hh:=hv.2 h (by rw[bH];simp);have hg:=au7 hX hh;obtain⟨hn,mY,Aq⟩:=h;exact wr Y<|wy Y ai<|wo Y (aA gW Y)<|wg 1 Y<|mS<|wl Y hg rfl<|wo Y oA<|wj fQ
     exact wr Y<|wy Y ai<|wo Y (aA ji rfl)<|wg 1 Y<|w8<|wo Y (az (cq _ _))<|wj (mJ v [] rfl)
   exact wr Y<|wy Y ai<|wo Y (aA ao Y)<|wg 1 Y<|w7<|wo Y (az (cq _ _))<|wj (lF vs [] rfl)
 exact wr Y<|wo Y (az (cq _ _))<|wj (loop cs [] rfl)
theorem bb4(hX:m8 X)(hf:uj f):Rn F X 28 0 f.s (·=[.bool true]):=by
 obtain⟨nm,fl,lk,cs⟩:=f;have rB:cs.length<=3:=hf.comps.2.1;have loop:∀(aa V:List Cm),cs=V++aa->Rn F X 28 1 [.sl (cs.map Cm.s),jD cs.length,jD V.length] (·=[.bool true]):=by
  intro aa
  induction aa with
  |nil=>
   intro V hp;rw[xj] at hp;subst hp;exact wr Y<|wn Y ai<|wt Y Y
  |cons c aa ih=>
   intro V hp;have aD:=bG hp;have ao:=cA (f:=Cm.s) hp;have cJ:=hf.comps.2.2 c (by show c∈cs;rw[hp];simp);have next:=ih (V++[c]) (by rw[hp,bw]);rw[xa] at next;obtain⟨cn,vars,vs⟩:=c;have dK:vs.length<=2:=cJ.vs.2;have lF:∀(bX bj:a0y),vs=bj++bX->Rn F X 28 2 [.sl (cs.map Cm.s),jD cs.length,jD V.length,.sl (ca vs),jD vs.length,jD bj.length] (·=[.bool true]):=by
    intro bX
    induction bX with
    |nil=>
     intro bj aO;rw[xj] at aO;subst aO;exact wr Y<|wn Y ai<|wo Y oA<|wj next
    |cons v bX dT=>
     intro bj aO;have s8:=bG aO;have ji:(ca vs)[bj.length]? =some [.sl (v.map Hn.s)]:=cA (f:=fun l:List Hn=>[D.sl (l.map Hn.s)]) aO;have jH:=dT (bj++[v]) (by rw[aO,bw]);rw[xa] at jH;have hv:=cJ.hs v (by show v∈vs;rw[aO];simp);have mq:=hv.1;have mJ:∀(ee bt:List Hn),v=bt++ee->Rn F X 28 3 [.sl (cs.map Cm.s),jD cs.length,jD V.length,.sl (ca vs),jD vs.length,jD bj.length,.sl (v.map Hn.s),jD v.length,jD bt.length] (·=[.bool true]):=by
      intro ee
      induction ee with
      |nil=>
       intro bt bH;rw[xj] at bH;subst bH;exact wr Y<|wn Y ai<|wo Y oA<|wj jH
      |cons h ee mV=>
       intro bt bH;have ww:=bG bH;have gW:=cA (f:=Hn.s) bH;have fQ:=mV (bt++[h]) (by rw[bH,bw]);rw[xa] at fQ;have hh:=hv.2 h (by rw[bH];simp);have hg:=au8 hX hh;obtain⟨hn,mY,Aq⟩:=h;exact wr Y<|wy Y ai<|wo Y (aA gW Y)<|wg 1 Y<|mS<|wl Y hg rfl<|wo Y oA<|wj fQ
     exact wr Y<|wy Y ai<|wo Y (aA ji rfl)<|wg 1 Y<|w8<|wo Y (az (cq _ _))<|wj (mJ v [] rfl)
   exact wr Y<|wy Y ai<|wo Y (aA ao Y)<|wg 1 Y<|w7<|wo Y (az (cq _ _))<|wj (lF vs [] rfl)
 exact wr Y<|wo Y (az (cq _ _))<|wj (loop cs [] rfl)
theorem bb3(hX:m8 X)(hf:uj f):Rn F X 29 0 f.s (·=[.bool true]):=by
 obtain⟨nm,fl,lk,cs⟩:=f;have rB:cs.length<=3:=hf.comps.2.1;have loop:∀(aa V:List Cm),cs=V++aa->Rn F X 29 1 [.sl (cs.map Cm.s),jD cs.length,jD V.length] (·=[.bool true]):=by
  intro aa
  induction aa with
  |nil=>
   intro V hp;rw[xj] at hp;subst hp;exact wr Y<|wn Y ai<|wt Y Y
  |cons c aa ih=>
   intro V hp;have aD:=bG hp;have ao:=cA (f:=Cm.s) hp;have cJ:=hf.comps.2.2 c (by show c∈cs;rw[hp];simp);have next:=ih (V++[c]) (by rw[hp,bw]);rw[xa] at next;obtain⟨cn,vars,vs⟩:=c;have dK:vs.length<=2:=cJ.vs.2;have lF:∀(bX bj:a0y),vs=bj++bX->Rn F X 29 2 [.sl (cs.map Cm.s),jD cs.length,jD V.length,.sl (ca vs),jD vs.length,jD bj.length] (·=[.bool true]):=by
    intro bX
    induction bX with
    |nil=>
     intro bj aO;rw[xj] at aO;subst aO;exact wr Y<|wn Y ai<|wo Y oA<|wj next
    |cons v bX dT=>
     intro bj aO;have s8:=bG aO;have ji:(ca vs)[bj.length]? =some [.sl (v.map Hn.s)]:=cA (f:=fun l:List Hn=>[D.sl (l.map Hn.s)]) aO;have jH:=dT (bj++[v]) (by rw[aO,bw]);rw[xa] at jH;have hv:=cJ.hs v (by show v∈vs;rw[aO];simp);have mq:=hv.1;have mJ:∀(ee bt:List Hn),v=bt++ee->Rn F X 29 3 [.sl (cs.map Cm.s),jD cs.length,jD V.length,.sl (ca vs),jD vs.length,jD bj.length,.sl (v.map Hn.s),jD v.length,jD bt.length] (·=[.bool true]):=by
      intro ee
      induction ee with
      |nil=>
       intro bt bH;rw[xj] at bH;subst bH;exact wr Y<|wn Y ai<|wo Y oA<|wj jH
      |cons h ee mV=>
       intro bt bH;have ww:=bG bH;have gW:=cA (f:=Hn.s) bH;have fQ:=mV (bt++[h]) (by rw[bH,bw]);rw[xa] at fQ;have hh:=hv.2 h (by rw[bH];simp);have hg:=au5 hX hh;obtain⟨hn,mY,Aq⟩:=h;exact wr Y<|wy Y ai<|wo Y (aA gW Y)<|wg 1 Y<|mS<|wl Y hg rfl<|wo Y oA<|wj fQ
     exact wr Y<|wy Y ai<|wo Y (aA ji rfl)<|wg 1 Y<|w8<|wo Y (az (cq _ _))<|wj (mJ v [] rfl)
   exact wr Y<|wy Y ai<|wo Y (aA ao Y)<|wg 1 Y<|w7<|wo Y (az (cq _ _))<|wj (lF vs [] rfl)
 exact wr Y<|wo Y (az (cq _ _))<|wj (loop cs [] rfl)
theorem aG6(hX:m8 X)(hf:uj f):Rn F X 40 0 f.s (·=[.bool true]):=by
 have hE:=bb3 hX hf;obtain⟨nm,fl,lk,cs⟩:=f;have hE:Rn F X 29 0 [.str nm,.sl (fl.map Fg.d),.sl (lk.map Lk.d),.sl (cs.map Cm.s)] (·=[.bool true]):=hE;have IT:lk.length<=9:=hf.links.1;have rB:cs.length<=3:=hf.comps.2.1;have HJ:∀(aa V:List Cm),cs=V++aa->Rn F X 40 2 [.sl (cs.map Cm.s),jD cs.length,jD V.length,.str nm,.sl (fl.map Fg.d),.sl (lk.map Lk.d)] (·=[.bool true]):=by
  intro aa
  induction aa with
  |nil=>
   intro V hp;rw[xj] at hp;subst hp;exact wr Y<|wn Y ai<|wl Y hE rfl<|wt Y Y
  |cons c aa ih=>
   intro V hp;have aD:=bG hp;have ao:=cA (f:=Cm.s) hp;have cJ:=hf.comps.2.2 c (by show c∈cs;rw[hp];simp);have next:=ih (V++[c]) (by rw[hp,bw]);rw[xa] at next;obtain⟨cn,vars,vs⟩:=c;have Um:vars.length<=5:=cJ.vars.1;have lF:∀(bX bj:List Vr),vars=bj++bX->Rn F X 40 3 [.sl (cs.map Cm.s),jD cs.length,jD V.length,.sl (vars.map Vr.s),jD vars.length,jD bj.length,.str nm,.sl (fl.map Fg.d),.sl (lk.map Lk.d)] (·=[.bool true]):=by
    intro bX
    induction bX with
    |nil=>
     intro bj aO;rw[xj] at aO;subst aO;exact wr Y<|wn Y ai<|wo Y oA<|wj next
    |cons v bX dT=>
     intro bj aO;have s8:=bG aO;have ji:=cA (f:=Vr.s) aO;have jH:=dT (bj++[v]) (by rw[aO,bw]);rw[xa] at jH;have hg:=ax0 (X:=X) (cJ.vars.2 v (by show v∈vars;rw[aO];simp));obtain⟨v1,v2,v3⟩:=v;exact wr Y<|wy Y ai<|wo Y (aA ji rfl)<|wg 1 Y<|mS<|wl Y hg rfl<|wo Y oA<|wj jH
   exact wr Y<|wy Y ai<|wo Y (aA ao Y)<|wg 1 Y<|oq<|wo Y (az (cq _ _))<|wj (lF vars [] rfl)
 have Bp:∀(aa V:List Lk),lk=V++aa->Rn F X 40 1 [.sl (lk.map Lk.d),jD lk.length,jD V.length,.str nm,.sl (fl.map Fg.d),.sl (cs.map Cm.s)] (·=[.bool true]):=by
  intro aa
  induction aa with
  |nil=>
   intro V hp;rw[xj] at hp;subst hp;exact wr Y<|wn Y ai<|wo Y (az (cq _ _))<|wj (HJ cs [] rfl)
  |cons v aa ih=>
   intro V hp;have aD:=bG hp;have ao:=cA (f:=Lk.d) hp;have next:=ih (V++[v]) (by rw[hp,bw]);rw[xa] at next;have hl:=(hf.links.2 v (by show v∈lk;rw[hp];simp)).Aa;obtain⟨a,b,c⟩:=v;simp only at hl;refine wr Y<|wy Y ai<|wo Y (aA ao Y)<|wg 1 Y ?_;dsimp only [eA,Ex.r,St.r,c_,n_,lh,lg,k9,kZ,kY,Lk.d];exact wn Y ai<|wn Y cg<|wo Y oA<|wj next
 exact wr Y<|wo Y (az (cq _ _))<|wj (Bp lk [] rfl)
theorem aN7(hX:m8 X)(hf:uj f):Rn F X 39 0 f.s (·=[.bool true]):=by
 have hE:=bb4 hX hf;obtain⟨nm,fl,lk,cs⟩:=f;have hE:Rn F X 28 0 [.str nm,.sl (fl.map Fg.d),.sl (lk.map Lk.d),.sl (cs.map Cm.s)] (·=[.bool true]):=hE;have IT:lk.length<=9:=hf.links.1;have CK:fl.length<=2:=hf.flags.1;have rB:cs.length<=3:=hf.comps.2.1;have Bx:=hX.name nm hf.name;have HJ:∀(aa V:List Cm),cs=V++aa->Rn F X 39 5 [.sl (cs.map Cm.s),jD cs.length,jD V.length,.str nm,.sl (fl.map Fg.d),.sl (lk.map Lk.d)] (·=[.bool true]):=by
  intro aa
  induction aa with
  |nil=>
   intro V hp;rw[xj] at hp;subst hp;exact wr Y<|wn Y ai<|wl Y hE rfl<|wt Y Y
  |cons c aa ih=>
   intro V hp;have aD:=bG hp;have ao:=cA (f:=Cm.s) hp;have cJ:=hf.comps.2.2 c (by show c∈cs;rw[hp];simp);have next:=ih (V++[c]) (by rw[hp,bw]);rw[xa] at next;have yg:=hX.name c.name cJ.name;obtain⟨cn,vars,vs⟩:=c;have Um:vars.length<=5:=cJ.vars.1;have lF:∀(bX bj:List Vr),vars=bj++bX->Rn F X 39 7 [.sl (cs.map Cm.s),jD cs.length,jD V.length,.sl (vars.map Vr.s),jD vars.length,jD bj.length,.str nm,.sl (fl.map Fg.d),.sl (lk.map Lk.d)] (·=[.bool true]):=by
    intro bX
    induction bX with
    |nil=>
     intro bj aO;rw[xj] at aO;subst aO;exact wr Y<|wn Y ai<|wo Y oA<|wj next
    |cons v bX dT=>
     intro bj aO;have s8:=bG aO;have ji:=cA (f:=Vr.s) aO;have jH:=dT (bj++[v]) (by rw[aO,bw]);rw[xa] at jH;have hg:=hX.name v.name (cJ.vars.2 v (by show v∈vars;rw[aO];simp)).name;obtain⟨v1,v2,v3⟩:=v;exact wr Y<|wy Y ai<|wo Y (aA ji rfl)<|wg 1 Y<|mS<|wl Y hg rfl<|wo Y oA<|wj jH
   exact wr Y<|wy Y ai<|wo Y (aA ao Y)<|wg 1 Y<|oq<|wl Y yg rfl<|wo Y (az (cq _ _))<|wj (lF vars [] rfl)
 have Bp:∀(aa V:List Lk),lk=V++aa->Rn F X 39 3 [.sl (lk.map Lk.d),jD lk.length,jD V.length,.str nm,.sl (fl.map Fg.d),.sl (cs.map Cm.s)] (·=[.bool true]):=by
  intro aa
  induction aa with
  |nil=>
   intro V hp;rw[xj] at hp;subst hp;exact wr Y<|wn Y ai<|wo Y (az (cq _ _))<|wj (HJ cs [] rfl)
  |cons v aa ih=>
   intro V hp;have aD:=bG hp;have ao:=cA (f:=Lk.d) hp;have next:=ih (V++[v]) (by rw[hp,bw]);rw[xa] at next;have hl:=hf.links.2 v (by show v∈lk;rw[hp];simp);have g1:=hX.name v.src hl.src;have g2:=hX.name v.dst hl.dst;obtain⟨a,b,c⟩:=v;exact wr Y<|wy Y ai<|wo Y (aA ao Y)<|wg 1 Y<|oq<|wl Y g1 rfl<|wl Y g2 rfl<|wo Y oA<|wj next
 have BC:∀(aa V:List Fg),fl=V++aa->Rn F X 39 1 [.sl (fl.map Fg.d),jD fl.length,jD V.length,.str nm,.sl (lk.map Lk.d),.sl (cs.map Cm.s)] (·=[.bool true]):=by
  intro aa
  induction aa with
  |nil=>
   intro V hp;rw[xj] at hp;subst hp;exact wr Y<|wn Y ai<|wo Y (az (cq _ _))<|wj (Bp lk [] rfl)
  |cons v aa ih=>
   intro V hp;have aD:=bG hp;have ao:=cA (f:=Fg.d) hp;have next:=ih (V++[v]) (by rw[hp,bw]);rw[xa] at next;have g1:=hX.name v.name (hf.flags.2 v (by show v∈fl;rw[hp];simp));obtain⟨a,b⟩:=v;cases b
   ·exact wr Y<|wy Y ai<|wo Y (aA ao Y)<|wg 2 Y<|w9<|wl Y g1 rfl<|wo Y oA<|wj next
   ·exact wr Y<|wy Y ai<|wo Y (aA ao Y)<|wg 1 Y<|w9<|wl Y g1 rfl<|wo Y oA<|wj next
 exact wr Y<|wl Y Bx rfl<|wo Y (az (cq _ _))<|wj (BC fl [] rfl)
end
section
theorem X0(s:a0h)(v:D):∀m:a0b,(vh s v m).length<=m.length+1
 |[]=>xk _
 |row::t=>by
  unfold vh;split
  ·simp
  ·have:=X0 s v t;simp only [xi];omega
theorem aL7(hX:m8 X)(hf:uj f):Rn F X 110 0 f.s (·=[.bool true]):=by
 have c27:=bb5 hX hf;obtain⟨nm,fl,lk,cs⟩:=f;have js:1<=cs.length:=hf.comps.1;have rB:cs.length<=3:=hf.comps.2.1;have bE:fl.length<=2:=hf.flags.1;have hl9:lk.length<=9:=hf.links.1;have loop:∀(aa V:List Cm),cs=V++aa->Rn F X 110 1 [.sl (cs.map Cm.s),jD cs.length,jD V.length,.str nm,.sl (fl.map Fg.d),.sl (lk.map Lk.d)] (·=[.bool true]):=by
  intro aa
  induction aa with
  |nil=>
   intro V hp;rw[xj] at hp;subst hp;exact wr Y<|wn Y ai<|wl Y c27 rfl<|wt Y Y
  |cons c aa ih=>
   intro V hp;have aD:=bG hp;have ao:=cA (f:=Cm.s) hp;have cJ:=hf.comps.2.2 c (by show c∈cs;rw[hp];simp);have next:=ih (V++[c]) (by rw[hp,bw]);rw[xa] at next;obtain⟨cn,vars,vs⟩:=c;have dK:vs.length<=2:=cJ.vs.2;have mq:1<=vs.length:=cJ.vs.1;have Um:vars.length<=5:=cJ.vars.1;have lF:∀(bX bj:a0y),vs=bj++bX->∀m:a0b,m.length<=3*bj.length->Rn F X 110 2 [.sl (cs.map Cm.s),jD cs.length,jD V.length,.sl (ca vs),jD vs.length,jD bj.length,.str nm,.sl (fl.map Fg.d),.sl (lk.map Lk.d),.sl m] (·=[.bool true]):=by
    intro bX
    induction bX with
    |nil=>
     intro bj aO m hm;rw[xj] at aO;subst aO;exact wr Y<|wn Y ai<|wo Y bf<|wn Y cg<|wo Y oA<|wj next
    |cons hs bX dT=>
     intro bj aO m hm;have s8:=bG aO;have ji:=cA (f:=fun l=>[D.sl (l.map Hn.s)]) aO;have hhs:=cJ.hs hs (by show hs∈vs;rw[aO];simp);have hh3:hs.length<=3:=hhs.1;have jH:=dT (bj++[hs]) (by rw[aO,bw]);rw[xa,show[hs].length=1 from Y] at jH;have mJ:∀(ee bt:List Hn),hs=bt++ee->∀m:a0b,m.length<=3*bj.length+bt.length->Rn F X 110 3 [.sl (cs.map Cm.s),jD cs.length,jD V.length,.sl (ca vs),jD vs.length,jD bj.length,.sl (hs.map Hn.s),jD hs.length,jD bt.length,.str nm,.sl (fl.map Fg.d),.sl (lk.map Lk.d),.sl m] (·=[.bool true]):=by
      intro ee
      induction ee with
      |nil=>
       intro bt bH m hm;rw[xj] at bH;subst bH;exact wr Y<|wn Y ai<|wo Y oA<|b_ Y (jH m a0B)
      |cons h ee mV=>
       intro bt bH m hm;have ww:=bG bH;have gW:=cA (f:=Hn.s) bH;have fQ:=mV (bt++[h]) (by rw[bH,bw]);rw[xa,show[h].length=1 from Y] at fQ;obtain⟨hn,ps,bd⟩:=h;have x8:aL .Ef [.sl m,.str hn,.bool true]=some (.sl (vh hn (.bool true) m)):=rfl;have hul:=X0 hn (.bool true) m;exact wr Y<|wy Y ai<|wo Y (aA gW Y)<|wg 1 Y<|hZ<|wo Y x8<|wo Y oA<|b_ Y (fQ _ a0B)
     have g3:=mJ hs [] rfl m (by simpa using hm);exact wr Y<|wy Y ai<|wo Y (aA ji rfl)<|wg 1 Y<|mg<|wo Y (az (cq _ _))<|wj g3
   have g2:=lF vs [] rfl [] (xk _);refine wr Y<|wy Y ai<|wo Y (aA ao Y)<|wg 1 Y ?_;dsimp only [eA,Ex.r,St.r,c_,n_,lh,lg,k9,kZ,kY,Cm.s];exact wo Y (az (cq _ _))<|wo Y (az (cq _ _))<|wn Y cg<|wn Y ay<|wn Y cg<|wg 1 Y<|wo Y (az (cq _ _))<|wj g2
 have g:=loop cs [] rfl;exact wr Y<|wo Y (az (n:=cs.length) (cq _ _))<|wn Y ay<|wn Y cg<|wo Y (az (n:=fl.length) (cq _ _))<|wn Y cg<|wo Y (az (n:=lk.length) (cq _ _))<|wn Y cg<|wo Y (az (n:=cs.length) (cq _ _))<|w8<|wj g
theorem Pm(hX:m8 X)(hf:uj f):Rn F X 41 0 f.s (·=[iD 0]):=by
 have h1:=aL7 hX hf;have h2:=aN7 hX hf;have h3:=aG6 hX hf;obtain⟨nm,fl,lk,cs⟩:=f;exact wr Y<|wl Y h1 rfl<|wl Y h2 rfl<|wl Y h3 rfl<|wt Y Y
end
end Go.Proofs.YthicpeihkkokmaaGreatDoor
namespace Go.Fl
open Go.Ex
theorem rS{c c' k k':Nat}(h1:c<200)(h2:c'<200)(h3:k<200)(h4:k'<200)(h:nm c k=nm c' k'):c=c'/\k=k':=by
 simp only [nm,List.cons.injEq,and_true] at h;have e1:=congrArg UInt8.toNat h.1;have e2:=congrArg UInt8.toNat h.2;simp at e1 e2;omega
theorem rU{s:aq}(h:s∈GN):s.length<=6:=by
 have:∀s∈GN,s.length<=6:=a0I
 exact this s h
def qO(l:List Vr)(s:aq):Option Vr:=l.find? (fun v=>v.name==s)
def zz(l:List Cm)(s:aq):Option Cm:=l.find? (fun v=>v.name==s)
def qc(l:a0y)(s:aq):Option Hn:=l.flatten.find? (fun v=>v.name==s)
def D2:Option Vr->List D|some v=>v.s++[.bool true]|none=>[.str [],bD 0,iD 0,.bool false]
def ZM:Option Cm->List D|some v=>v.s++[.bool true]|none=>[.str [],.sl [],.sl [],.bool false]
def QH:Option Hn->List D|some v=>v.s++[.bool true]|none=>[.str [],.sl [],.sl [],.bool false]
def uZ(l:List Fg)(s:aq):Bool:=l.any (fun v=>v.name==s)
theorem J0{α:Type}{p:α->Bool}{V:List α}(h:∀a∈V,p a=false)(aa:List α):(V++aa).find? p=aa.find? p:=by
 induction V with
 |nil=>rfl
 |cons a V ih=>rw[c_,List.find?_cons,h a a0C];exact ih (fun b hb=>h b (by simp[hb]))
end Go.Fl
namespace Go.Proofs.YthicpeihkkokmaaGreatDoor
open Go.Ex Go.RowKit Go.Fl
section
variable{X:a0a}
def TV(l:a0s)(s:aq)(o:a0d):Prop:=(s∈l/\∃i,o=[iD i]/\i<l.length/\l[i]? =some s)\/(s∉l/\o=[.int .i64 (-1)])
theorem v7{α:Type}{l V aa:List α}{a:α}(h:l=V++a::aa):l[V.length]? =some a:=by rw[h,xq (xk _),Nat.sub_self];rfl
theorem Dt{l:a0s}(hl:l.length<=1000)(s:aq):Rn F X 43 0 [.sl (strs l),.str s] (TV l s):=by
 have loop:∀(aa V:a0s),l=V++aa->s∉V->Rn F X 43 1 [.sl (strs l),.str s,jD l.length,jD V.length] (TV l s):=by
  intro aa
  induction aa with
  |nil=>
   intro V hp hn;rw[xj] at hp;subst hp;exact wr Y<|wn Y ai<|wt Y (.inr ⟨hn,rfl⟩)
  |cons a aa ih=>
   intro V hp hn;have aD:=bG hp;have ao:(strs l)[V.length]? =some [.str a]:=cA (f:=fun p:aq=>[D.str p]) hp;have bI6:=v7 hp;by_cases hs:s=a
   ·subst hs;exact wr Y<|wy Y ai<|wo Y (aA ao Y)<|wg 1 Y<|Wp.dO Y jE rfl<|wt Y (.inl ⟨by rw[hp];simp,V.length,rfl,a0B,bI6⟩)
   ·have next:=ih (V++[a]) (by rw[hp,bw]) (by simp[hn,hs]);rw[xa] at next;exact wr Y<|wy Y ai<|wo Y (aA ao Y)<|wg 1 Y<|Wp.dF Y jE hs<|wo Y oA<|wj next
 exact wr Y<|wo Y (az (xm _))<|b_ Y (loop l [] rfl a0C)
theorem yw{l:a0s}(hl:l.length<=1000)(s:aq):Rn F X 42 0 [.sl (strs l),.str s] (·=[.bool (decide (s∈l))]):=by
 refine wr Y<|wg 1 Y<|wx Y (Dt hl s) ?_;rintro _ (⟨hm,i,rfl,hi,_⟩|⟨hm,rfl⟩)
 ·refine⟨rfl,?_⟩;rw[u_ hm];exact wy Y fp<|wt Y Y
 ·refine⟨rfl,?_⟩;rw[f_ hm];exact wg 1 Y<|wt Y Y
theorem GA{l:List Fg}(hl:l.length<=1000)(s:aq):Rn F X 46 0 [.sl (l.map Fg.d),.str s] (·=[.bool (uZ l s)]):=by
 have loop:∀(aa V:List Fg),l=V++aa->(∀x∈V,(x.name==s)=false)->Rn F X 44 1 [.sl (l.map Fg.d),.ptr [.str s] 0,jD l.length,jD V.length] (fun o=>(uZ l s=true/\∃i:Nat,o=[iD i])\/(uZ l s=false/\o=[.int .i64 (-1)])):=by
  intro aa
  induction aa with
  |nil=>
   intro V hp hn;rw[xj] at hp;subst hp;exact wr Y<|wn Y ai<|wt Y (.inr ⟨List.any_eq_false.2 (fun x hx=>by rw[hn x hx];exact Bool.false_ne_true),rfl⟩)
  |cons a aa ih=>
   intro V hp hn;have aD:=bG hp;have ao:=cA (f:=Fg.d) hp;by_cases hs:a.name=s
   ·have CI:uZ l s=true:=List.any_eq_true.2 ⟨a,by rw[hp];simp,by rw[hs];simp⟩;obtain⟨an,ab⟩:=a;cases ab
    ·exact wr Y<|wy Y ai<|wo Y (aA ao Y)<|wg 2 Y<|w7<|wg 1 Y<|Wp.dO Y jE hs<|wt Y (.inl ⟨CI,V.length,rfl⟩)
    ·exact wr Y<|wy Y ai<|wo Y (aA ao Y)<|wg 1 Y<|w7<|wg 1 Y<|Wp.dO Y jE hs<|wt Y (.inl ⟨CI,V.length,rfl⟩)
   ·have next:=ih (V++[a]) (by rw[hp,bw]) (fun x hx=>by
     rcases xF.1 hx with hx|hx
     ·exact hn x hx
     ·rw[xy] at hx;subst hx;simpa using hs)
    rw[xa] at next;obtain⟨an,ab⟩:=a;cases ab
    ·exact wr Y<|wy Y ai<|wo Y (aA ao Y)<|wg 2 Y<|w7<|wg 1 Y<|Wp.dF Y jE hs<|wo Y oA<|wj next
    ·exact wr Y<|wy Y ai<|wo Y (aA ao Y)<|wg 1 Y<|w7<|wg 1 Y<|Wp.dF Y jE hs<|wo Y oA<|wj next
 have ent:Rn F X 44 0 [.sl (l.map Fg.d),.ptr [.str s] 0] (fun o=>(uZ l s=true/\∃i:Nat,o=[iD i])\/(uZ l s=false/\o=[.int .i64 (-1)])):=by
  exact wr Y<|wo Y (az (cq _ _))<|b_ Y (loop l [] rfl (fun x hx=>by cases hx))
 refine wr Y<|wg 2 Y<|wx Y ent ?_;rintro _ (⟨hm,i,rfl⟩|⟨hm,rfl⟩)
 ·refine⟨rfl,?_⟩;rw[hm];exact wy Y fp<|wt Y Y
 ·refine⟨rfl,?_⟩;rw[hm];exact wg 1 Y<|wt Y Y
theorem yt{l:List Vr}(hl:l.length<=1000)(s:aq):Rn F X 47 0 [.sl (l.map Vr.s),.str s] (·=D2 (qO l s)):=by
 have loop:∀(aa V:List Vr),l=V++aa->(∀x∈V,(x.name==s)=false)->Rn F X 47 1 [.str s,.sl (l.map Vr.s),jD l.length,jD V.length] (·=D2 (qO l s)):=by
  intro aa
  induction aa with
  |nil=>
   intro V hp hn;rw[xj] at hp;subst hp;have hz:qO l s=none:=List.find?_eq_none.2 (fun x hx=>by rw[hn x hx];exact Bool.false_ne_true);rw[hz];exact wr Y<|wn Y ai<|wt Y Y
  |cons a aa ih=>
   intro V hp hn;have aD:=bG hp;have ao:=cA (f:=Vr.s) hp;by_cases hs:a.name=s
   ·have hz:qO l s=some a:=by unfold qO;rw[hp,J0 hn,List.find?_cons,show(a.name==s)=true by rw[hs];simp]
    rw[hz];obtain⟨a1,a2,a3⟩:=a;exact wr Y<|wy Y ai<|wo Y (aA ao Y)<|wg 1 Y<|w8<|Wp.dO Y jE hs<|wt Y Y
   ·have next:=ih (V++[a]) (by rw[hp,bw]) (fun x hx=>by
     rcases xF.1 hx with hx|hx
     ·exact hn x hx
     ·rw[xy] at hx;subst hx;simpa using hs)
    rw[xa] at next;obtain⟨a1,a2,a3⟩:=a;exact wr Y<|wy Y ai<|wo Y (aA ao Y)<|wg 1 Y<|w8<|Wp.dF Y jE hs<|wo Y oA<|wj next
 exact wr Y<|wo Y (az (cq _ _))<|b_ Y (loop l [] rfl (fun x hx=>by cases hx))
theorem Jr{l:List Cm}(hl:l.length<=1000)(s:aq):Rn F X 49 0 [.sl (l.map Cm.s),.str s] (·=ZM (zz l s)):=by
 have loop:∀(aa V:List Cm),l=V++aa->(∀x∈V,(x.name==s)=false)->Rn F X 49 1 [.str s,.sl (l.map Cm.s),jD l.length,jD V.length] (·=ZM (zz l s)):=by
  intro aa
  induction aa with
  |nil=>
   intro V hp hn;rw[xj] at hp;subst hp;have hz:zz l s=none:=List.find?_eq_none.2 (fun x hx=>by rw[hn x hx];exact Bool.false_ne_true);rw[hz];exact wr Y<|wn Y ai<|wt Y Y
  |cons a aa ih=>
   intro V hp hn;have aD:=bG hp;have ao:=cA (f:=Cm.s) hp;by_cases hs:a.name=s
   ·have hz:zz l s=some a:=by unfold zz;rw[hp,J0 hn,List.find?_cons,show(a.name==s)=true by rw[hs];simp]
    rw[hz];obtain⟨a1,a2,a3⟩:=a;exact wr Y<|wy Y ai<|wo Y (aA ao Y)<|wg 1 Y<|w8<|Wp.dO Y jE hs<|wt Y Y
   ·have next:=ih (V++[a]) (by rw[hp,bw]) (fun x hx=>by
     rcases xF.1 hx with hx|hx
     ·exact hn x hx
     ·rw[xy] at hx;subst hx;simpa using hs)
    rw[xa] at next;obtain⟨a1,a2,a3⟩:=a;exact wr Y<|wy Y ai<|wo Y (aA ao Y)<|wg 1 Y<|w8<|Wp.dF Y jE hs<|wo Y oA<|wj next
 exact wr Y<|wo Y (az (cq _ _))<|b_ Y (loop l [] rfl (fun x hx=>by cases hx))
theorem Oc{l:a0y}(hl:l.length<=1000)(aW:∀v∈l,v.length<=1000)(s:aq):Rn F X 48 0 [.sl (ca l),.str s] (·=QH (qc l s)):=by
 have loop:∀(aa V:a0y),l=V++aa->(∀x∈V.flatten,(x.name==s)=false)->Rn F X 48 1 [.str s,.sl (ca l),jD l.length,jD V.length] (·=QH (qc l s)):=by
  intro aa
  induction aa with
  |nil=>
   intro V hp hn;rw[xj] at hp;subst hp;have hz:qc l s=none:=List.find?_eq_none.2 (fun x hx=>by rw[hn x hx];exact Bool.false_ne_true);rw[hz];exact wr Y<|wn Y ai<|wt Y Y
  |cons a aa ih=>
   intro V hp hn;have aD:=bG hp;have ao:(ca l)[V.length]? =some [.sl (a.map Hn.s)]:=cA (f:=fun l:List Hn=>[D.sl (l.map Hn.s)]) hp;have UR:=aW a (by rw[hp];simp);have next:=ih (V++[a]) (by rw[hp,bw]);rw[xa] at next;have Bt:∀(bX bj:List Hn),a=bj++bX->(∀x∈bj,(x.name==s)=false)->Rn F X 48 2 [.str s,.sl (ca l),jD l.length,jD V.length,.sl (a.map Hn.s),jD a.length,jD bj.length] (·=QH (qc l s)):=by
    intro bX
    induction bX with
    |nil=>
     intro bj aO gf;rw[xj] at aO;subst aO;have next:=next (fun x hx=>by
      rw[List.flatten_append] at hx;rcases xF.1 hx with hx|hx
      ·exact hn x hx
      ·exact gf x (by simpa using hx))
     exact wr Y<|wn Y ai<|wo Y oA<|wj next
    |cons b bX dT=>
     intro bj aO gf;have s8:=bG aO;have ji:=cA (f:=Hn.s) aO;by_cases hs:b.name=s
     ·have hz:qc l s=some b:=by
       unfold qc;rw[hp,List.flatten_append,J0 hn,List.flatten_cons,aO,a_,J0 gf,c_,List.find?_cons,show(b.name==s)=true by rw[hs];simp]
      rw[hz];obtain⟨b1,b2,b3⟩:=b;exact wr Y<|wy Y ai<|wo Y (aA ji rfl)<|wg 1 Y<|dC<|Wp.dO Y jE hs<|wt Y Y
     ·have jH:=dT (bj++[b]) (by rw[aO,bw]) (fun x hx=>by
       rcases xF.1 hx with hx|hx
       ·exact gf x hx
       ·rw[xy] at hx;subst hx;simpa using hs)
      rw[xa] at jH;obtain⟨b1,b2,b3⟩:=b;exact wr Y<|wy Y ai<|wo Y (aA ji rfl)<|wg 1 Y<|dC<|Wp.dF Y jE hs<|wo Y oA<|wj jH
   exact wr Y<|wy Y ai<|wo Y (aA ao Y)<|wg 1 Y<|w6<|wo Y (az (cq _ _))<|b_ Y (Bt a [] rfl (fun x hx=>by cases hx))
 exact wr Y<|wo Y (az (xm _))<|b_ Y (loop l [] rfl (fun x hx=>by cases hx))
abbrev gi(f:dg)(w:aq):a0d:=[.str f.name,.sl (f.flags.map Fg.d),.sl (f.links.map Lk.d),.sl (f.comps.map Cm.s),.str w,.str [],.str [],iD 0]
theorem Oy(f:dg)(w n:aq):Rn F X 52 0 (gi f w++[iD 0,.str n]) (·= .bool true::gi f w):=by
 exact wr Y<|wg 3 Y<|wt Y Y
theorem HN(f:dg)(w w':aq):Rn F X 53 0 (gi f w++[.str w']) (·= .bool true::gi f w'):=by
 exact wr Y<|wg 1 Y<|wt Y Y
theorem yB(f:dg)(w n:aq)(e:Nat):Rn F X 50 0 (gi f w++[iD e,.str n]) (·= .bool true::gi f w):=by
 exact wr Y<|wl Y (Oy f w n) rfl<|wt Y Y
end
end Go.Proofs.YthicpeihkkokmaaGreatDoor
