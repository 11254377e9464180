/- What these functions answer. -/
import Derived.Test.YtaginlnifpbfgaaGreatDoorP2
set_option linter.unusedVariables false
set_option linter.unusedSimpArgs false
set_option maxHeartbeats 4000000
set_option maxRecDepth 100000
namespace Go.Proofs.YtaginlnifpbfgaaGreatDoor
open Go.Ex Go.RowKit Go.Fl
structure mV (X:Nat→List D→Option (List D)):Prop where
 name:∀s∈GN,Rn F X 109 0 [.str s] (·=[.bool true])
section
variable{X:Nat→List D→Option (List D)}
theorem aG6(hX:mV X){e:Fl.Ex}(hn:jb e):Rn F X 30 0 [.ptr (Ex.s e) 0] (·=[.bool true]):=by
 obtain⟨op,name,n,args⟩:=e;obtain⟨h1,h2,h3,h4,h5⟩:=hn.get;have dM:=yY (X:=X) h1 h2;rcases h5 with⟨a,b,hm⟩|⟨a,rfl⟩
 ·rw[show x8 op=true from decide_eq_true ⟨a,b⟩] at dM;have iL:=hX.name name hm;exact wr rfl<|wg 3 rfl<|wl rfl dM rfl<|w9<|wg 3 rfl<|wl rfl iL rfl<|mN<|wt rfl rfl
 ·rw[show x8 op=false from decide_eq_false (by omega)] at dM;exact wr rfl<|wg 3 rfl<|wl rfl dM rfl<|w9<|wt rfl rfl
theorem aG0{e:Fl.Ex}(hn:jb e):Rn F X 31 0 [.ptr (Ex.s e) 0] (·=[.bool true]):=by
 obtain⟨op,name,n,args⟩:=e;obtain⟨h1,h2,h3,h4,h5⟩:=hn.get;have dM:=yY (X:=X) h1 h2;have hl:=jC args;rcases h5 with⟨a,b,hm⟩|⟨a,rfl⟩
 ·rw[show x8 op=true from decide_eq_true ⟨a,b⟩] at dM;exact wr rfl<|wg 3 rfl<|wl rfl dM rfl<|w9<|wg 3 rfl<|wo rfl bf<|mN<|wn rfl gP<|wg 3 rfl<|wn rfl ay<|wg 1 rfl<|gu<|wg 2 rfl<|wy rfl ay<|wt rfl rfl
 ·rw[show x8 op=false from decide_eq_false (by omega)] at dM;rcases h4 with⟨rfl,h4⟩|⟨h6,rfl⟩
  ·exact wr rfl<|wg 3 rfl<|wl rfl dM rfl<|w9<|wg 3 rfl<|wo rfl bf<|mN<|Wp.iG rfl gP (by rw[hl,h3];simp)<|wg 5 rfl<|gu<|wg 5 rfl<|iE<|wg 1 rfl<|wy rfl Bk<|wt rfl rfl
  ·exact wr rfl<|wg 3 rfl<|wl rfl dM rfl<|w9<|wg 3 rfl<|wo rfl bf<|mN<|wn rfl gP<|wg 5 rfl<|gu<|wg 2 rfl<|wn rfl ay<|wg 2 rfl<|iE<|wg 2 rfl<|wt rfl rfl
theorem aM5(hX:mV X){e:Fl.Ex}(h:kN jb e):Rn F X 20 0 [.ptr (Ex.s e) 0] (·=[.bool true]):=by
 induction h with
 | @mk op name n args hn ha ih=>
  obtain⟨h1,h2,h3,h4,h5⟩:=hn.get;have eE:ku op≤2:=by unfold ku;split<;>(try split)<;>omega
  have hg:=aG6 (X:=X) hX hn;have loop:∀(ae pre:List Fl.Ex),args=pre++ae→Rn F X 20 1 [.ptr (Ex.s ⟨op,name,n,args⟩) 0,jD args.length,jD pre.length] (·=[.bool true]):=by
   intro ae
   induction ae with
   |nil=>
    intro pre hp;rw[xj] at hp;subst hp;exact wr rfl<|wn rfl ak<|wt rfl rfl
   |cons a ae dj=>
    intro pre hp;have aC:=bu hp;have ap:(Ex.ss args)[pre.length]? =some (Ex.s a):=by rw[hp];exact tH _ _ _
    have ny:=ih a (by rw[hp];simp);have:=dj (pre++[a]) (by rw[hp,bp]);rw[xa] at this;obtain⟨o1,n1,i1,a1⟩:=a;exact wr rfl<|wy rfl ak<|wg 3 rfl<|wo rfl (aB ap rfl)<|w7<|wl rfl ny rfl<|wo rfl oA<|wj this
  exact wr rfl<|wl rfl hg rfl<|wg 3 rfl<|w5<|wo rfl (aA (jC _))<|wj (loop args [] rfl)
theorem aM4{e:Fl.Ex}(h:kN jb e):Rn F X 21 0 [.ptr (Ex.s e) 0] (·=[.bool true]):=by
 induction h with
 | @mk op name n args hn ha ih=>
  obtain⟨h1,h2,h3,h4,h5⟩:=hn.get;have eE:ku op≤2:=by unfold ku;split<;>(try split)<;>omega
  have hg:=aG0 (X:=X) hn;have loop:∀(ae pre:List Fl.Ex),args=pre++ae→Rn F X 21 1 [.ptr (Ex.s ⟨op,name,n,args⟩) 0,jD args.length,jD pre.length] (·=[.bool true]):=by
   intro ae
   induction ae with
   |nil=>
    intro pre hp;rw[xj] at hp;subst hp;exact wr rfl<|wn rfl ak<|wt rfl rfl
   |cons a ae dj=>
    intro pre hp;have aC:=bu hp;have ap:(Ex.ss args)[pre.length]? =some (Ex.s a):=by rw[hp];exact tH _ _ _
    have ny:=ih a (by rw[hp];simp);have:=dj (pre++[a]) (by rw[hp,bp]);rw[xa] at this;obtain⟨o1,n1,i1,a1⟩:=a;exact wr rfl<|wy rfl ak<|wg 3 rfl<|wo rfl (aB ap rfl)<|w7<|wl rfl ny rfl<|wo rfl oA<|wj this
  exact wr rfl<|wl rfl hg rfl<|wg 3 rfl<|w5<|wo rfl (aA (jC _))<|wj (loop args [] rfl)
theorem bb5(hX:mV X){s:St}(hs:nE s):Rn F X 22 0 [.ptr (St.s s) 0] (·=[.bool true]):=by
 obtain⟨kind,name,cg,bi,th,el⟩:=s;have fF:bi.length≤3:=by have:=hs.ln;omega
 have loop:∀(ae pre:List Fl.Ex),bi=pre++ae→Rn F X 22 1 [.ptr (St.s ⟨kind,name,cg,bi,th,el⟩) 0,jD bi.length,jD pre.length] (·=[.bool true]):=by
  intro ae
  induction ae with
  |nil=>
   intro pre hp;rw[xj] at hp;subst hp;exact wr rfl<|wn rfl ak<|wt rfl rfl
  |cons a ae dj=>
   intro pre hp;have aC:=bu hp;have ap:(Ex.ss bi)[pre.length]? =some (Ex.s a):=by rw[hp];exact tH _ _ _
   have ha:=hs.ex a (by rw[hp];simp);have Ny:=ha.2;have ny:=aM5 (X:=X) hX ha.1;have:=dj (pre++[a]) (by rw[hp,bp]);rw[xa] at this;obtain⟨o1,n1,i1,a1⟩:=a;exact wr rfl<|wy rfl ak<|wg 3 rfl<|wo rfl (aB ap rfl)<|w7<|wl rfl ny rfl<|wo rfl oA<|wj this
 exact wr rfl<|wg 3 rfl<|wo rfl (aA (jC _))<|w5<|wj (loop bi [] rfl)
theorem bb4{s:St}(hs:nE s):Rn F X 23 0 [.ptr (St.s s) 0] (·=[.bool true]):=by
 obtain⟨kind,name,cg,bi,th,el⟩:=s;have fF:bi.length≤3:=by have:=hs.ln;omega
 have loop:∀(ae pre:List Fl.Ex),bi=pre++ae→Rn F X 23 1 [.ptr (St.s ⟨kind,name,cg,bi,th,el⟩) 0,jD bi.length,jD pre.length] (·=[.bool true]):=by
  intro ae
  induction ae with
  |nil=>
   intro pre hp;rw[xj] at hp;subst hp;exact wr rfl<|wn rfl ak<|wt rfl rfl
  |cons a ae dj=>
   intro pre hp;have aC:=bu hp;have ap:(Ex.ss bi)[pre.length]? =some (Ex.s a):=by rw[hp];exact tH _ _ _
   have ha:=hs.ex a (by rw[hp];simp);have Ny:=ha.2;have ny:=aM4 (X:=X) ha.1;have:=dj (pre++[a]) (by rw[hp,bp]);rw[xa] at this;obtain⟨o1,n1,i1,a1⟩:=a;exact wr rfl<|wy rfl ak<|wg 3 rfl<|wo rfl (aB ap rfl)<|w7<|wl rfl ny rfl<|wo rfl oA<|wj this
 exact wr rfl<|wg 3 rfl<|wo rfl (aA (jC _))<|w5<|wj (loop bi [] rfl)
theorem bm2{s:St}(hs:nE s):Rn F X 34 0 [.ptr (St.s s) 0] (·=[.bool true]):=by
 obtain⟨kind,name,cg,bi,th,el⟩:=s;have fF:bi.length≤3:=by have:=hs.ln;omega
 have loop:∀(ae pre:List Fl.Ex),bi=pre++ae→Rn F X 34 1 [.sl (Ex.ss bi),jD bi.length,jD pre.length] (·=[.bool true]):=by
  intro ae
  induction ae with
  |nil=>
   intro pre hp;rw[xj] at hp;subst hp;exact wr rfl<|wn rfl ak<|wt rfl rfl
  |cons a ae dj=>
   intro pre hp;have aC:=bu hp;have ap:(Ex.ss bi)[pre.length]? =some (Ex.s a):=by rw[hp];exact tH _ _ _
   have ha:=hs.ex a (by rw[hp];simp);have Ny:=ha.2;have ny:=aM3 (X:=X) ha.1 (by omega);have:=dj (pre++[a]) (by rw[hp,bp]);rw[xa] at this;obtain⟨o1,n1,i1,a1⟩:=a;exact wr rfl<|wy rfl ak<|wo rfl (aB ap rfl)<|wg 1 rfl<|w8<|wl rfl ny rfl<|wn rfl c7<|wo rfl oA<|wj this
 exact wr rfl<|wg 3 rfl<|wo rfl (aA (jC _))<|w5<|wj (loop bi [] rfl)
theorem aG5(hX:mV X){s:St}(hs:nE s):Rn F X 32 0 [.ptr (St.s s) 0] (·=[.bool true]):=by
 have hw:=bb5 hX hs;obtain⟨kind,name,cg,bi,th,el⟩:=s;have hf:=W1 (X:=X) hs.k1 hs.yy;have k1:=hs.k1;have yy:=hs.yy;have key:∀k,kind=k→Rn F X 32 0 [.ptr (St.s ⟨kind,name,cg,bi,th,el⟩) 0] (·=[.bool true]):=by
  intro k hk;have iL:((kind=1∨kind=2∨kind=3∨kind=6∨kind=9)→Rn F X 109 0 [.str name] (·=[.bool true])):=fun h=>by
   rcases hs.nm with⟨_,h2⟩|⟨h1,_⟩
   ·exact hX.name _ h2
   ·omega
  have uL:(kind=6∨kind=7)→Rn F X 109 0 [.str cg] (·=[.bool true]):=fun h=>by
   rcases hs.hn with⟨_,h2⟩|⟨h1,_⟩
   ·exact hX.name _ h2
   ·omega
  have:kind=1∨kind=2∨kind=3∨kind=4∨kind=5∨kind=6∨kind=7∨kind=8∨kind=9∨kind=10:=by omega
  rcases this with rfl|rfl|rfl|rfl|rfl|rfl|rfl|rfl|rfl|rfl
  ·have hf:Rn F X 19 0 [bD 1] (·=[.bool true,.bool false,iD 1,iD 1,.bool false,.bool false,.bool true]):=hf;exact wr rfl<|wg 3 rfl<|wl rfl hf rfl<|dh<|wg 3 rfl<|wl rfl (iL (by omega)) rfl<|dJ<|wl rfl hw rfl<|wt rfl rfl
  ·have hf:Rn F X 19 0 [bD 2] (·=[.bool true,.bool false,iD 2,iD 2,.bool false,.bool false,.bool true]):=hf;exact wr rfl<|wg 3 rfl<|wl rfl hf rfl<|dh<|wg 3 rfl<|wl rfl (iL (by omega)) rfl<|dJ<|wl rfl hw rfl<|wt rfl rfl
  ·have hf:Rn F X 19 0 [bD 3] (·=[.bool true,.bool false,iD 1,iD 1,.bool false,.bool false,.bool true]):=hf;exact wr rfl<|wg 3 rfl<|wl rfl hf rfl<|dh<|wg 3 rfl<|wl rfl (iL (by omega)) rfl<|dJ<|wl rfl hw rfl<|wt rfl rfl
  ·have hf:Rn F X 19 0 [bD 4] (·=[.bool false,.bool false,iD 1,iD 1,.bool true,.bool true,.bool true]):=hf;exact wr rfl<|wg 3 rfl<|wl rfl hf rfl<|dh<|wl rfl hw rfl<|wt rfl rfl
  ·have hf:Rn F X 19 0 [bD 5] (·=[.bool false,.bool false,iD 1,iD 1,.bool true,.bool false,.bool true]):=hf;exact wr rfl<|wg 3 rfl<|wl rfl hf rfl<|dh<|wl rfl hw rfl<|wt rfl rfl
  ·have hf:Rn F X 19 0 [bD 6] (·=[.bool true,.bool true,iD 0,iD 4,.bool false,.bool false,.bool true]):=hf;exact wr rfl<|wg 3 rfl<|wl rfl hf rfl<|dh<|wg 3 rfl<|wl rfl (iL (by omega)) rfl<|dJ<|wg 3 rfl<|wl rfl (uL (by omega)) rfl<|fZ<|wl rfl hw rfl<|wt rfl rfl
  ·have hf:Rn F X 19 0 [bD 7] (·=[.bool false,.bool true,iD 1,iD 5,.bool false,.bool false,.bool true]):=hf;exact wr rfl<|wg 3 rfl<|wl rfl hf rfl<|dh<|wg 3 rfl<|wl rfl (uL (by omega)) rfl<|dJ<|wl rfl hw rfl<|wt rfl rfl
  ·have hf:Rn F X 19 0 [bD 8] (·=[.bool false,.bool false,iD 2,iD 2,.bool false,.bool true,.bool true]):=hf;exact wr rfl<|wg 3 rfl<|wl rfl hf rfl<|dh<|wl rfl hw rfl<|wt rfl rfl
  ·have hf:Rn F X 19 0 [bD 9] (·=[.bool true,.bool false,iD 1,iD 1,.bool false,.bool true,.bool true]):=hf;exact wr rfl<|wg 3 rfl<|wl rfl hf rfl<|dh<|wg 3 rfl<|wl rfl (iL (by omega)) rfl<|dJ<|wl rfl hw rfl<|wt rfl rfl
  ·have hf:Rn F X 19 0 [bD 10] (·=[.bool false,.bool false,iD 0,iD 0,.bool false,.bool false,.bool true]):=hf;exact wr rfl<|wg 3 rfl<|wl rfl hf rfl<|dh<|wl rfl hw rfl<|wt rfl rfl
 exact key kind rfl
theorem aF9{s:St}(hs:nE s):Rn F X 33 0 [.ptr (St.s s) 0] (·=[.bool true]):=by
 have hw:=bb4 (X:=X) hs;obtain⟨kind,name,cg,bi,th,el⟩:=s;have hf:=W1 (X:=X) hs.k1 hs.yy;have k1:=hs.k1;have yy:=hs.yy;have iL:=hs.nm;have uL:=hs.hn;have T2:=hs.ln;have lT:=hs.thn;have fF:=hs.eln;have hl:=jC bi;have:kind=1∨kind=2∨kind=3∨kind=4∨kind=5∨kind=6∨kind=7∨kind=8∨kind=9∨kind=10:=by omega
 rcases this with rfl|rfl|rfl|rfl|rfl|rfl|rfl|rfl|rfl|rfl
 ·obtain rfl:cg=[]:=by rcases uL with⟨h,_⟩|⟨_,h⟩;omega;exact h
  obtain rfl:th=[]:=by rcases lT with h|h|h;omega;omega;exact h
  obtain rfl:el=[]:=by rcases fF with h|h|h|h;omega;omega;omega;exact h
  have hf:Rn F X 19 0 [bD 1] (·=[.bool true,.bool false,iD 1,iD 1,.bool false,.bool false,.bool true]):=hf;exact wr rfl<|wg 3 rfl<|wl rfl hf rfl<|dh<|wg 3 rfl<|wo rfl bf<|dJ<|wn rfl ak<|wn rfl c7<|wg 5 rfl<|fZ<|wg 2 rfl<|wo rfl bf<|wg 2 rfl<|qp<|wg 2 rfl<|wo rfl bf<|wg 1 rfl<|wl rfl hw rfl<|iS<|wt rfl rfl
 ·obtain rfl:cg=[]:=by rcases uL with⟨h,_⟩|⟨_,h⟩;omega;exact h
  obtain rfl:th=[]:=by rcases lT with h|h|h;omega;omega;exact h
  obtain rfl:el=[]:=by rcases fF with h|h|h|h;omega;omega;omega;exact h
  have hf:Rn F X 19 0 [bD 2] (·=[.bool true,.bool false,iD 2,iD 2,.bool false,.bool false,.bool true]):=hf;exact wr rfl<|wg 3 rfl<|wl rfl hf rfl<|dh<|wg 3 rfl<|wo rfl bf<|dJ<|wn rfl ak<|wn rfl c7<|wg 5 rfl<|fZ<|wg 2 rfl<|wo rfl bf<|wg 2 rfl<|qp<|wg 2 rfl<|wo rfl bf<|wg 1 rfl<|wl rfl hw rfl<|iS<|wt rfl rfl
 ·obtain rfl:cg=[]:=by rcases uL with⟨h,_⟩|⟨_,h⟩;omega;exact h
  obtain rfl:th=[]:=by rcases lT with h|h|h;omega;omega;exact h
  obtain rfl:el=[]:=by rcases fF with h|h|h|h;omega;omega;omega;exact h
  have hf:Rn F X 19 0 [bD 3] (·=[.bool true,.bool false,iD 1,iD 1,.bool false,.bool false,.bool true]):=hf;exact wr rfl<|wg 3 rfl<|wl rfl hf rfl<|dh<|wg 3 rfl<|wo rfl bf<|dJ<|wn rfl ak<|wn rfl c7<|wg 5 rfl<|fZ<|wg 2 rfl<|wo rfl bf<|wg 2 rfl<|qp<|wg 2 rfl<|wo rfl bf<|wg 1 rfl<|wl rfl hw rfl<|iS<|wt rfl rfl
 ·obtain rfl:name=[]:=by rcases iL with⟨h,_⟩|⟨_,h⟩;omega;exact h
  obtain rfl:cg=[]:=by rcases uL with⟨h,_⟩|⟨_,h⟩;omega;exact h
  have hf:Rn F X 19 0 [bD 4] (·=[.bool false,.bool false,iD 1,iD 1,.bool true,.bool true,.bool true]):=hf;exact wr rfl<|wg 3 rfl<|wl rfl hf rfl<|dh<|wg 3 rfl<|wo rfl bf<|dJ<|wn rfl ak<|wn rfl c7<|wg 5 rfl<|fZ<|wg 3 rfl<|wl rfl hw rfl<|wt rfl rfl
 ·obtain rfl:name=[]:=by rcases iL with⟨h,_⟩|⟨_,h⟩;omega;exact h
  obtain rfl:cg=[]:=by rcases uL with⟨h,_⟩|⟨_,h⟩;omega;exact h
  obtain rfl:el=[]:=by rcases fF with h|h|h|h;omega;omega;omega;exact h
  have hf:Rn F X 19 0 [bD 5] (·=[.bool false,.bool false,iD 1,iD 1,.bool true,.bool false,.bool true]):=hf;exact wr rfl<|wg 3 rfl<|wl rfl hf rfl<|dh<|wg 3 rfl<|wo rfl bf<|dJ<|wn rfl ak<|wn rfl c7<|wg 5 rfl<|fZ<|wg 5 rfl<|qp<|wg 1 rfl<|wo rfl bf<|wg 1 rfl<|wl rfl hw rfl<|wt rfl rfl
 ·obtain rfl:th=[]:=by rcases lT with h|h|h;omega;omega;exact h
  obtain rfl:el=[]:=by rcases fF with h|h|h|h;omega;omega;omega;exact h
  have hf:Rn F X 19 0 [bD 6] (·=[.bool true,.bool true,iD 0,iD 4,.bool false,.bool false,.bool true]):=hf;exact wr rfl<|wg 3 rfl<|wl rfl hf rfl<|dh<|wg 3 rfl<|wo rfl bf<|dJ<|wn rfl ak<|wn rfl c7<|wg 3 rfl<|wo rfl bf<|fZ<|wg 4 rfl<|wo rfl bf<|qp<|wg 1 rfl<|wl rfl hw rfl<|wt rfl rfl
 ·obtain rfl:name=[]:=by rcases iL with⟨h,_⟩|⟨_,h⟩;omega;exact h
  obtain rfl:th=[]:=by rcases lT with h|h|h;omega;omega;exact h
  obtain rfl:el=[]:=by rcases fF with h|h|h|h;omega;omega;omega;exact h
  have hf:Rn F X 19 0 [bD 7] (·=[.bool false,.bool true,iD 1,iD 5,.bool false,.bool false,.bool true]):=hf;exact wr rfl<|wg 3 rfl<|wl rfl hf rfl<|dh<|wg 3 rfl<|wo rfl bf<|dJ<|wn rfl ak<|wn rfl c7<|wg 5 rfl<|fZ<|wg 2 rfl<|wo rfl bf<|wg 2 rfl<|qp<|wg 2 rfl<|wo rfl bf<|wg 1 rfl<|wl rfl hw rfl<|iS<|wt rfl rfl
 ·obtain rfl:name=[]:=by rcases iL with⟨h,_⟩|⟨_,h⟩;omega;exact h
  obtain rfl:cg=[]:=by rcases uL with⟨h,_⟩|⟨_,h⟩;omega;exact h
  obtain rfl:th=[]:=by rcases lT with h|h|h;omega;omega;exact h
  have hf:Rn F X 19 0 [bD 8] (·=[.bool false,.bool false,iD 2,iD 2,.bool false,.bool true,.bool true]):=hf;exact wr rfl<|wg 3 rfl<|wl rfl hf rfl<|dh<|wg 3 rfl<|wo rfl bf<|dJ<|wn rfl ak<|wn rfl c7<|wg 5 rfl<|fZ<|wg 5 rfl<|qp<|wg 1 rfl<|wo rfl bf<|wg 1 rfl<|wl rfl hw rfl<|wt rfl rfl
 ·obtain rfl:cg=[]:=by rcases uL with⟨h,_⟩|⟨_,h⟩;omega;exact h
  obtain rfl:th=[]:=by rcases lT with h|h|h;omega;omega;exact h
  have hf:Rn F X 19 0 [bD 9] (·=[.bool true,.bool false,iD 1,iD 1,.bool false,.bool true,.bool true]):=hf;exact wr rfl<|wg 3 rfl<|wl rfl hf rfl<|dh<|wg 3 rfl<|wo rfl bf<|dJ<|wn rfl ak<|wn rfl c7<|wg 5 rfl<|fZ<|wg 2 rfl<|wo rfl bf<|wg 1 rfl<|wl rfl hw rfl<|qp<|wt rfl rfl
 ·obtain rfl:name=[]:=by rcases iL with⟨h,_⟩|⟨_,h⟩;omega;exact h
  obtain rfl:cg=[]:=by rcases uL with⟨h,_⟩|⟨_,h⟩;omega;exact h
  obtain rfl:th=[]:=by rcases lT with h|h|h;omega;omega;exact h
  obtain rfl:el=[]:=by rcases fF with h|h|h|h;omega;omega;omega;exact h
  have hf:Rn F X 19 0 [bD 10] (·=[.bool false,.bool false,iD 0,iD 0,.bool false,.bool false,.bool true]):=hf;exact wr rfl<|wg 3 rfl<|wl rfl hf rfl<|dh<|wg 3 rfl<|wo rfl bf<|dJ<|wn rfl ak<|wn rfl c7<|wg 5 rfl<|fZ<|wg 5 rfl<|qp<|wg 1 rfl<|wo rfl bf<|wg 3 rfl<|iS<|wg 1 rfl<|wo rfl bf<|wg 1 rfl<|wl rfl hw rfl<|wt rfl rfl
theorem bt3{l:List St}(hl:l.length≤12)(h:∀s∈l,hY nE s):Rn F X 24 0 [.sl (St.ss l)] (·=[.bool true]):=by
 refine hY.list (P:=fun l=>Rn F X 24 0 [.sl (St.ss l)] (·=[.bool true])) ?_ hl h;clear hl h l;intro l hl h;have loop:∀(ae pre:List St),l=pre++ae→Rn F X 24 1 [.sl (St.ss l),jD l.length,jD pre.length] (·=[.bool true]):=by
  intro ae
  induction ae with
  |nil=>
   intro pre hp;rw[xj] at hp;subst hp;exact wr rfl<|wn rfl ak<|wt rfl rfl
  |cons a ae dj=>
   intro pre hp;have aC:=bu hp;have ap:(St.ss l)[pre.length]? =some (St.s a):=by rw[hp];exact y4 _ _ _
   obtain⟨ha,hs⟩:=h a (by rw[hp];simp);have hg:=bm2 (X:=X) ha;have:=dj (pre++[a]) (by rw[hp,bp]);rw[xa] at this;obtain⟨kind,name,cg,bi,th,el⟩:=a;obtain⟨ej,eK⟩:=hs;exact wr rfl<|wy rfl ak<|wo rfl (aB ap rfl)<|wl rfl hg rfl<|wg 2 rfl<|w7<|wg 1 rfl<|wl rfl ej rfl<|wg 2 rfl<|dh<|wg 1 rfl<|wl rfl eK rfl<|wo rfl oA<|wj this
 exact wr rfl<|wo rfl (aA (mY _))<|wj (loop l [] rfl)
theorem bt2(hX:mV X){l:List St}(hl:l.length≤12)(h:∀s∈l,hY nE s):Rn F X 25 0 [.sl (St.ss l)] (·=[.bool true]):=by
 refine hY.list (P:=fun l=>Rn F X 25 0 [.sl (St.ss l)] (·=[.bool true])) ?_ hl h;clear hl h l;intro l hl h;have loop:∀(ae pre:List St),l=pre++ae→Rn F X 25 1 [.sl (St.ss l),jD l.length,jD pre.length] (·=[.bool true]):=by
  intro ae
  induction ae with
  |nil=>
   intro pre hp;rw[xj] at hp;subst hp;exact wr rfl<|wn rfl ak<|wt rfl rfl
  |cons a ae dj=>
   intro pre hp;have aC:=bu hp;have ap:(St.ss l)[pre.length]? =some (St.s a):=by rw[hp];exact y4 _ _ _
   obtain⟨ha,hs⟩:=h a (by rw[hp];simp);have hg:=aG5 (X:=X) hX ha;have:=dj (pre++[a]) (by rw[hp,bp]);rw[xa] at this;obtain⟨kind,name,cg,bi,th,el⟩:=a;obtain⟨ej,eK⟩:=hs;exact wr rfl<|wy rfl ak<|wo rfl (aB ap rfl)<|wl rfl hg rfl<|wg 2 rfl<|w7<|wg 1 rfl<|wl rfl ej rfl<|wg 2 rfl<|dh<|wg 1 rfl<|wl rfl eK rfl<|wo rfl oA<|wj this
 exact wr rfl<|wo rfl (aA (mY _))<|wj (loop l [] rfl)
theorem bt1{l:List St}(hl:l.length≤12)(h:∀s∈l,hY nE s):Rn F X 26 0 [.sl (St.ss l)] (·=[.bool true]):=by
 refine hY.list (P:=fun l=>Rn F X 26 0 [.sl (St.ss l)] (·=[.bool true])) ?_ hl h;clear hl h l;intro l hl h;have loop:∀(ae pre:List St),l=pre++ae→Rn F X 26 1 [.sl (St.ss l),jD l.length,jD pre.length] (·=[.bool true]):=by
  intro ae
  induction ae with
  |nil=>
   intro pre hp;rw[xj] at hp;subst hp;exact wr rfl<|wn rfl ak<|wt rfl rfl
  |cons a ae dj=>
   intro pre hp;have aC:=bu hp;have ap:(St.ss l)[pre.length]? =some (St.s a):=by rw[hp];exact y4 _ _ _
   obtain⟨ha,hs⟩:=h a (by rw[hp];simp);have hg:=aF9 (X:=X) ha;have:=dj (pre++[a]) (by rw[hp,bp]);rw[xa] at this;obtain⟨kind,name,cg,bi,th,el⟩:=a;obtain⟨ej,eK⟩:=hs;exact wr rfl<|wy rfl ak<|wo rfl (aB ap rfl)<|wl rfl hg rfl<|wg 2 rfl<|w7<|wg 1 rfl<|wl rfl ej rfl<|wg 2 rfl<|dh<|wg 1 rfl<|wl rfl eK rfl<|wo rfl oA<|wj this
 exact wr rfl<|wo rfl (aA (mY _))<|wj (loop l [] rfl)
end
section
variable{X:Nat→List D→Option (List D)}
theorem aF3(hX:mV X){h:Hn}(hh:CX h):Rn F X 35 0 h.s (·=[.bool true]):=by
 obtain⟨name,params,body⟩:=h;have hp:params.length≤2:=hh.params.1;have FN:St.ns body≤12:=hh.n;have hd:St.dZ body≤4:=hh.dp;have c1:=aU0 (X:=X) 12 body FN (xk _);have c2:=aY6 (X:=X) 12 body FN (xk _) (by omega);have c3:=bt3 (X:=X) hh.len hh.body;have fp:(strs params).length=params.length:=xm _;show Rn F X 35 0 [.str name,.sl (strs params),.sl (St.ss body)] _;exact wr rfl<|wo rfl bf<|wn rfl c7<|wl rfl c1 rfl<|wn rfl c7<|wl rfl c2 rfl<|wn rfl c7<|wl rfl c3 rfl<|w7<|wt rfl rfl
theorem aF4(hX:mV X){h:Hn}(hh:CX h):Rn F X 36 0 h.s (·=[.bool true]):=by
 obtain⟨name,params,body⟩:=h;have hp:params.length≤2:=hh.params.1;have hn:=hX.name name hh.name;have c3:=bt2 hX hh.len hh.body;have fp:(strs params).length=params.length:=xm _;have loop:∀(ae pre:List aH),params=pre++ae→Rn F X 36 1 [.sl (strs params),jD params.length,jD pre.length,.str name,.sl (St.ss body)] (·=[.bool true]):=by
  intro ae
  induction ae with
  |nil=>
   intro pre hp;rw[xj] at hp;subst hp;exact wr rfl<|wn rfl ak<|wl rfl c3 rfl<|wt rfl rfl
  |cons a ae dj=>
   intro pre aE;have aC:=bu aE;have ap:(strs params)[pre.length]? =some [.str a]:=bR (f:=fun p:aH=>[D.str p]) aE;have ha:=hX.name a (hh.params.2 a (by show a∈params;rw[aE];simp));have:=dj (pre++[a]) (by rw[aE,bp]);rw[xa] at this;exact wr rfl<|wy rfl ak<|wo rfl (aB ap rfl)<|wg 1 rfl<|wl rfl ha rfl<|wo rfl oA<|w9<|wj this
 exact wr rfl<|wl rfl hn rfl<|wo rfl (aA fp)<|wj (loop params [] rfl)
theorem aF1(hX:mV X){h:Hn}(hh:CX h):Rn F X 37 0 h.s (·=[.bool true]):=by
 obtain⟨name,params,body⟩:=h;have c3:=bt1 (X:=X) hh.len hh.body;exact wr rfl<|wl rfl c3 rfl<|wt rfl rfl
theorem aH1{v:Vr}(hv:VrS v):Rn F X 38 0 v.s (·=[.bool true]):=by
 obtain⟨name,type,init⟩:=v;have ht:=hv.type;simp only at ht;rcases ht with⟨rfl,h⟩|⟨rfl|rfl,rfl⟩
 ·exact wr rfl<|wg 1 rfl<|wy rfl gP<|wt rfl rfl
 ·exact wr rfl<|wg 3 rfl<|wt rfl rfl
 ·exact wr rfl<|wg 4 rfl<|wt rfl rfl
theorem bg8(hX:mV X){f:bq}(hf:uV f):Rn F X 27 0 f.s (·=[.bool true]):=by
 obtain⟨nm,fl,lk,cs⟩:=f;have rG:cs.length≤3:=hf.comps.2.1;have loop:∀(ae pre:List Cm),cs=pre++ae→Rn F X 27 1 [.sl (cs.map Cm.s),jD cs.length,jD pre.length] (·=[.bool true]):=by
  intro ae
  induction ae with
  |nil=>
   intro pre hp;rw[xj] at hp;subst hp;exact wr rfl<|wn rfl ak<|wt rfl rfl
  |cons c ae ih=>
   intro pre hp;have aC:=bu hp;have ap:=bR (f:=Cm.s) hp;have cw:=hf.comps.2.2 c (by show c∈cs;rw[hp];simp);have next:=ih (pre++[c]) (by rw[hp,bp]);rw[xa] at next;obtain⟨cn,vars,vs⟩:=c;have cM:vs.length≤2:=cw.vs.2;have kA:∀(dD bH:List (List Hn)),vs=bH++dD→Rn F X 27 2 [.sl (cs.map Cm.s),jD cs.length,jD pre.length,.sl (cL vs),jD vs.length,jD bH.length] (·=[.bool true]):=by
    intro dD
    induction dD with
    |nil=>
     intro bH aY;rw[xj] at aY;subst aY;exact wr rfl<|wn rfl ak<|wo rfl oA<|wj next
    |cons v dD eH=>
     intro bH aY;have xX:=bu aY;have lE:(cL vs)[bH.length]? =some [.sl (v.map Hn.s)]:=bR (f:=fun l:List Hn=>[D.sl (l.map Hn.s)]) aY;have iN:=eH (bH++[v]) (by rw[aY,bp]);rw[xa] at iN;have hv:=cw.hs v (by show v∈vs;rw[aY];simp);have ob:=hv.1;have mh:∀(dI bw:List Hn),v=bw++dI→Rn F X 27 3 [.sl (cs.map Cm.s),jD cs.length,jD pre.length,.sl (cL vs),jD vs.length,jD bH.length,.sl (v.map Hn.s),jD v.length,jD bw.length] (·=[.bool true]):=by
      intro dI
      induction dI with
      |nil=>
       intro bw bF;rw[xj] at bF;subst bF;exact wr rfl<|wn rfl ak<|wo rfl oA<|wj iN
      |cons h dI mP=>
       intro bw bF;have xW:=bu bF;have gk:=bR (f:=Hn.s) bF;have eZ:=mP (bw++[h]) (by rw[bF,bp]);rw[xa] at eZ;have hh:=hv.2 h (by rw[bF];simp);have hg:=aF3 hX hh;obtain⟨hn,mR,FK⟩:=h;exact wr rfl<|wy rfl ak<|wo rfl (aB gk rfl)<|wg 1 rfl<|mN<|wl rfl hg rfl<|wo rfl oA<|wj eZ
     exact wr rfl<|wy rfl ak<|wo rfl (aB lE rfl)<|wg 1 rfl<|w8<|wo rfl (aA (ch _ _))<|wj (mh v [] rfl)
   exact wr rfl<|wy rfl ak<|wo rfl (aB ap rfl)<|wg 1 rfl<|w7<|wo rfl (aA (ch _ _))<|wj (kA vs [] rfl)
 exact wr rfl<|wo rfl (aA (ch _ _))<|wj (loop cs [] rfl)
theorem bg7(hX:mV X){f:bq}(hf:uV f):Rn F X 28 0 f.s (·=[.bool true]):=by
 obtain⟨nm,fl,lk,cs⟩:=f;have rG:cs.length≤3:=hf.comps.2.1;have loop:∀(ae pre:List Cm),cs=pre++ae→Rn F X 28 1 [.sl (cs.map Cm.s),jD cs.length,jD pre.length] (·=[.bool true]):=by
  intro ae
  induction ae with
  |nil=>
   intro pre hp;rw[xj] at hp;subst hp;exact wr rfl<|wn rfl ak<|wt rfl rfl
  |cons c ae ih=>
   intro pre hp;have aC:=bu hp;have ap:=bR (f:=Cm.s) hp;have cw:=hf.comps.2.2 c (by show c∈cs;rw[hp];simp);have next:=ih (pre++[c]) (by rw[hp,bp]);rw[xa] at next;obtain⟨cn,vars,vs⟩:=c;have cM:vs.length≤2:=cw.vs.2;have kA:∀(dD bH:List (List Hn)),vs=bH++dD→Rn F X 28 2 [.sl (cs.map Cm.s),jD cs.length,jD pre.length,.sl (cL vs),jD vs.length,jD bH.length] (·=[.bool true]):=by
    intro dD
    induction dD with
    |nil=>
     intro bH aY;rw[xj] at aY;subst aY;exact wr rfl<|wn rfl ak<|wo rfl oA<|wj next
    |cons v dD eH=>
     intro bH aY;have xX:=bu aY;have lE:(cL vs)[bH.length]? =some [.sl (v.map Hn.s)]:=bR (f:=fun l:List Hn=>[D.sl (l.map Hn.s)]) aY;have iN:=eH (bH++[v]) (by rw[aY,bp]);rw[xa] at iN;have hv:=cw.hs v (by show v∈vs;rw[aY];simp);have ob:=hv.1;have mh:∀(dI bw:List Hn),v=bw++dI→Rn F X 28 3 [.sl (cs.map Cm.s),jD cs.length,jD pre.length,.sl (cL vs),jD vs.length,jD bH.length,.sl (v.map Hn.s),jD v.length,jD bw.length] (·=[.bool true]):=by
      intro dI
      induction dI with
      |nil=>
       intro bw bF;rw[xj] at bF;subst bF;exact wr rfl<|wn rfl ak<|wo rfl oA<|wj iN
      |cons h dI mP=>
       intro bw bF;have xW:=bu bF;have gk:=bR (f:=Hn.s) bF;have eZ:=mP (bw++[h]) (by rw[bF,bp]);rw[xa] at eZ;have hh:=hv.2 h (by rw[bF];simp);have hg:=aF4 hX hh;obtain⟨hn,mR,FK⟩:=h;exact wr rfl<|wy rfl ak<|wo rfl (aB gk rfl)<|wg 1 rfl<|mN<|wl rfl hg rfl<|wo rfl oA<|wj eZ
     exact wr rfl<|wy rfl ak<|wo rfl (aB lE rfl)<|wg 1 rfl<|w8<|wo rfl (aA (ch _ _))<|wj (mh v [] rfl)
   exact wr rfl<|wy rfl ak<|wo rfl (aB ap rfl)<|wg 1 rfl<|w7<|wo rfl (aA (ch _ _))<|wj (kA vs [] rfl)
 exact wr rfl<|wo rfl (aA (ch _ _))<|wj (loop cs [] rfl)
theorem bg6(hX:mV X){f:bq}(hf:uV f):Rn F X 29 0 f.s (·=[.bool true]):=by
 obtain⟨nm,fl,lk,cs⟩:=f;have rG:cs.length≤3:=hf.comps.2.1;have loop:∀(ae pre:List Cm),cs=pre++ae→Rn F X 29 1 [.sl (cs.map Cm.s),jD cs.length,jD pre.length] (·=[.bool true]):=by
  intro ae
  induction ae with
  |nil=>
   intro pre hp;rw[xj] at hp;subst hp;exact wr rfl<|wn rfl ak<|wt rfl rfl
  |cons c ae ih=>
   intro pre hp;have aC:=bu hp;have ap:=bR (f:=Cm.s) hp;have cw:=hf.comps.2.2 c (by show c∈cs;rw[hp];simp);have next:=ih (pre++[c]) (by rw[hp,bp]);rw[xa] at next;obtain⟨cn,vars,vs⟩:=c;have cM:vs.length≤2:=cw.vs.2;have kA:∀(dD bH:List (List Hn)),vs=bH++dD→Rn F X 29 2 [.sl (cs.map Cm.s),jD cs.length,jD pre.length,.sl (cL vs),jD vs.length,jD bH.length] (·=[.bool true]):=by
    intro dD
    induction dD with
    |nil=>
     intro bH aY;rw[xj] at aY;subst aY;exact wr rfl<|wn rfl ak<|wo rfl oA<|wj next
    |cons v dD eH=>
     intro bH aY;have xX:=bu aY;have lE:(cL vs)[bH.length]? =some [.sl (v.map Hn.s)]:=bR (f:=fun l:List Hn=>[D.sl (l.map Hn.s)]) aY;have iN:=eH (bH++[v]) (by rw[aY,bp]);rw[xa] at iN;have hv:=cw.hs v (by show v∈vs;rw[aY];simp);have ob:=hv.1;have mh:∀(dI bw:List Hn),v=bw++dI→Rn F X 29 3 [.sl (cs.map Cm.s),jD cs.length,jD pre.length,.sl (cL vs),jD vs.length,jD bH.length,.sl (v.map Hn.s),jD v.length,jD bw.length] (·=[.bool true]):=by
      intro dI
      induction dI with
      |nil=>
       intro bw bF;rw[xj] at bF;subst bF;exact wr rfl<|wn rfl ak<|wo rfl oA<|wj iN
      |cons h dI mP=>
       intro bw bF;have xW:=bu bF;have gk:=bR (f:=Hn.s) bF;have eZ:=mP (bw++[h]) (by rw[bF,bp]);rw[xa] at eZ;have hh:=hv.2 h (by rw[bF];simp);have hg:=aF1 hX hh;obtain⟨hn,mR,FK⟩:=h;exact wr rfl<|wy rfl ak<|wo rfl (aB gk rfl)<|wg 1 rfl<|mN<|wl rfl hg rfl<|wo rfl oA<|wj eZ
     exact wr rfl<|wy rfl ak<|wo rfl (aB lE rfl)<|wg 1 rfl<|w8<|wo rfl (aA (ch _ _))<|wj (mh v [] rfl)
   exact wr rfl<|wy rfl ak<|wo rfl (aB ap rfl)<|wg 1 rfl<|w7<|wo rfl (aA (ch _ _))<|wj (kA vs [] rfl)
 exact wr rfl<|wo rfl (aA (ch _ _))<|wj (loop cs [] rfl)
theorem aQ3(hX:mV X){f:bq}(hf:uV f):Rn F X 40 0 f.s (·=[.bool true]):=by
 have hE:=bg6 hX hf;obtain⟨nm,fl,lk,cs⟩:=f;have hE:Rn F X 29 0 [.str nm,.sl (fl.map Fg.d),.sl (lk.map Lk.d),.sl (cs.map Cm.s)] (·=[.bool true]):=hE;have IF:lk.length≤9:=hf.links.1;have rG:cs.length≤3:=hf.comps.2.1;have HF:∀(ae pre:List Cm),cs=pre++ae→Rn F X 40 2 [.sl (cs.map Cm.s),jD cs.length,jD pre.length,.str nm,.sl (fl.map Fg.d),.sl (lk.map Lk.d)] (·=[.bool true]):=by
  intro ae
  induction ae with
  |nil=>
   intro pre hp;rw[xj] at hp;subst hp;exact wr rfl<|wn rfl ak<|wl rfl hE rfl<|wt rfl rfl
  |cons c ae ih=>
   intro pre hp;have aC:=bu hp;have ap:=bR (f:=Cm.s) hp;have cw:=hf.comps.2.2 c (by show c∈cs;rw[hp];simp);have next:=ih (pre++[c]) (by rw[hp,bp]);rw[xa] at next;obtain⟨cn,vars,vs⟩:=c;have TK:vars.length≤5:=cw.vars.1;have kA:∀(dD bH:List Vr),vars=bH++dD→Rn F X 40 3 [.sl (cs.map Cm.s),jD cs.length,jD pre.length,.sl (vars.map Vr.s),jD vars.length,jD bH.length,.str nm,.sl (fl.map Fg.d),.sl (lk.map Lk.d)] (·=[.bool true]):=by
    intro dD
    induction dD with
    |nil=>
     intro bH aY;rw[xj] at aY;subst aY;exact wr rfl<|wn rfl ak<|wo rfl oA<|wj next
    |cons v dD eH=>
     intro bH aY;have xX:=bu aY;have lE:=bR (f:=Vr.s) aY;have iN:=eH (bH++[v]) (by rw[aY,bp]);rw[xa] at iN;have hg:=aH1 (X:=X) (cw.vars.2 v (by show v∈vars;rw[aY];simp));obtain⟨v1,v2,v3⟩:=v;exact wr rfl<|wy rfl ak<|wo rfl (aB lE rfl)<|wg 1 rfl<|mN<|wl rfl hg rfl<|wo rfl oA<|wj iN
   exact wr rfl<|wy rfl ak<|wo rfl (aB ap rfl)<|wg 1 rfl<|n7<|wo rfl (aA (ch _ _))<|wj (kA vars [] rfl)
 have Bx:∀(ae pre:List Lk),lk=pre++ae→Rn F X 40 1 [.sl (lk.map Lk.d),jD lk.length,jD pre.length,.str nm,.sl (fl.map Fg.d),.sl (cs.map Cm.s)] (·=[.bool true]):=by
  intro ae
  induction ae with
  |nil=>
   intro pre hp;rw[xj] at hp;subst hp;exact wr rfl<|wn rfl ak<|wo rfl (aA (ch _ _))<|wj (HF cs [] rfl)
  |cons v ae ih=>
   intro pre hp;have aC:=bu hp;have ap:=bR (f:=Lk.d) hp;have next:=ih (pre++[v]) (by rw[hp,bp]);rw[xa] at next;have hl:=(hf.links.2 v (by show v∈lk;rw[hp];simp)).Ay;obtain⟨a,b,c⟩:=v;simp only at hl;refine wr rfl<|wy rfl ak<|wo rfl (aB ap rfl)<|wg 1 rfl ?_;dsimp only [dU,Ex.r,St.r,List.cons_append,List.nil_append,df,de,iT,kr,kq,Lk.d];exact wn rfl ak<|wn rfl c7<|wo rfl oA<|wj next
 exact wr rfl<|wo rfl (aA (ch _ _))<|wj (Bx lk [] rfl)
theorem aW3(hX:mV X){f:bq}(hf:uV f):Rn F X 39 0 f.s (·=[.bool true]):=by
 have hE:=bg7 hX hf;obtain⟨nm,fl,lk,cs⟩:=f;have hE:Rn F X 28 0 [.str nm,.sl (fl.map Fg.d),.sl (lk.map Lk.d),.sl (cs.map Cm.s)] (·=[.bool true]):=hE;have IF:lk.length≤9:=hf.links.1;have IN:fl.length≤2:=hf.flags.1;have rG:cs.length≤3:=hf.comps.2.1;have BJ:=hX.name nm hf.name;have HF:∀(ae pre:List Cm),cs=pre++ae→Rn F X 39 5 [.sl (cs.map Cm.s),jD cs.length,jD pre.length,.str nm,.sl (fl.map Fg.d),.sl (lk.map Lk.d)] (·=[.bool true]):=by
  intro ae
  induction ae with
  |nil=>
   intro pre hp;rw[xj] at hp;subst hp;exact wr rfl<|wn rfl ak<|wl rfl hE rfl<|wt rfl rfl
  |cons c ae ih=>
   intro pre hp;have aC:=bu hp;have ap:=bR (f:=Cm.s) hp;have cw:=hf.comps.2.2 c (by show c∈cs;rw[hp];simp);have next:=ih (pre++[c]) (by rw[hp,bp]);rw[xa] at next;have CA:=hX.name c.name cw.name;obtain⟨cn,vars,vs⟩:=c;have TK:vars.length≤5:=cw.vars.1;have kA:∀(dD bH:List Vr),vars=bH++dD→Rn F X 39 7 [.sl (cs.map Cm.s),jD cs.length,jD pre.length,.sl (vars.map Vr.s),jD vars.length,jD bH.length,.str nm,.sl (fl.map Fg.d),.sl (lk.map Lk.d)] (·=[.bool true]):=by
    intro dD
    induction dD with
    |nil=>
     intro bH aY;rw[xj] at aY;subst aY;exact wr rfl<|wn rfl ak<|wo rfl oA<|wj next
    |cons v dD eH=>
     intro bH aY;have xX:=bu aY;have lE:=bR (f:=Vr.s) aY;have iN:=eH (bH++[v]) (by rw[aY,bp]);rw[xa] at iN;have hg:=hX.name v.name (cw.vars.2 v (by show v∈vars;rw[aY];simp)).name;obtain⟨v1,v2,v3⟩:=v;exact wr rfl<|wy rfl ak<|wo rfl (aB lE rfl)<|wg 1 rfl<|mN<|wl rfl hg rfl<|wo rfl oA<|wj iN
   exact wr rfl<|wy rfl ak<|wo rfl (aB ap rfl)<|wg 1 rfl<|n7<|wl rfl CA rfl<|wo rfl (aA (ch _ _))<|wj (kA vars [] rfl)
 have Bx:∀(ae pre:List Lk),lk=pre++ae→Rn F X 39 3 [.sl (lk.map Lk.d),jD lk.length,jD pre.length,.str nm,.sl (fl.map Fg.d),.sl (cs.map Cm.s)] (·=[.bool true]):=by
  intro ae
  induction ae with
  |nil=>
   intro pre hp;rw[xj] at hp;subst hp;exact wr rfl<|wn rfl ak<|wo rfl (aA (ch _ _))<|wj (HF cs [] rfl)
  |cons v ae ih=>
   intro pre hp;have aC:=bu hp;have ap:=bR (f:=Lk.d) hp;have next:=ih (pre++[v]) (by rw[hp,bp]);rw[xa] at next;have hl:=hf.links.2 v (by show v∈lk;rw[hp];simp);have g1:=hX.name v.src hl.src;have g2:=hX.name v.dst hl.dst;obtain⟨a,b,c⟩:=v;exact wr rfl<|wy rfl ak<|wo rfl (aB ap rfl)<|wg 1 rfl<|n7<|wl rfl g1 rfl<|wl rfl g2 rfl<|wo rfl oA<|wj next
 have BM:∀(ae pre:List Fg),fl=pre++ae→Rn F X 39 1 [.sl (fl.map Fg.d),jD fl.length,jD pre.length,.str nm,.sl (lk.map Lk.d),.sl (cs.map Cm.s)] (·=[.bool true]):=by
  intro ae
  induction ae with
  |nil=>
   intro pre hp;rw[xj] at hp;subst hp;exact wr rfl<|wn rfl ak<|wo rfl (aA (ch _ _))<|wj (Bx lk [] rfl)
  |cons v ae ih=>
   intro pre hp;have aC:=bu hp;have ap:=bR (f:=Fg.d) hp;have next:=ih (pre++[v]) (by rw[hp,bp]);rw[xa] at next;have g1:=hX.name v.name (hf.flags.2 v (by show v∈fl;rw[hp];simp));obtain⟨a,b⟩:=v;cases b
   ·exact wr rfl<|wy rfl ak<|wo rfl (aB ap rfl)<|wg 2 rfl<|w9<|wl rfl g1 rfl<|wo rfl oA<|wj next
   ·exact wr rfl<|wy rfl ak<|wo rfl (aB ap rfl)<|wg 1 rfl<|w9<|wl rfl g1 rfl<|wo rfl oA<|wj next
 exact wr rfl<|wl rfl BJ rfl<|wo rfl (aA (ch _ _))<|wj (BM fl [] rfl)
end
section
variable{X:Nat→List D→Option (List D)}
theorem Wl(s:List UInt8)(v:D):∀m:List (List D),(vH s v m).length≤m.length+1
 |[]=>xk _
 |row::t=>by
  unfold vH;split
  ·simp
  ·have:=Wl s v t;simp only [xi];omega
theorem aU7(hX:mV X){f:bq}(hf:uV f):Rn F X 110 0 f.s (·=[.bool true]):=by
 have c27:=bg8 hX hf;obtain⟨nm,fl,lk,cs⟩:=f;have s7:1≤cs.length:=hf.comps.1;have rG:cs.length≤3:=hf.comps.2.1;have bE:fl.length≤2:=hf.flags.1;have hl9:lk.length≤9:=hf.links.1;have loop:∀(ae pre:List Cm),cs=pre++ae→Rn F X 110 1 [.sl (cs.map Cm.s),jD cs.length,jD pre.length,.str nm,.sl (fl.map Fg.d),.sl (lk.map Lk.d)] (·=[.bool true]):=by
  intro ae
  induction ae with
  |nil=>
   intro pre hp;rw[xj] at hp;subst hp;exact wr rfl<|wn rfl ak<|wl rfl c27 rfl<|wt rfl rfl
  |cons c ae ih=>
   intro pre hp;have aC:=bu hp;have ap:=bR (f:=Cm.s) hp;have cw:=hf.comps.2.2 c (by show c∈cs;rw[hp];simp);have next:=ih (pre++[c]) (by rw[hp,bp]);rw[xa] at next;obtain⟨cn,vars,vs⟩:=c;have cM:vs.length≤2:=cw.vs.2;have ob:1≤vs.length:=cw.vs.1;have TK:vars.length≤5:=cw.vars.1;have kA:∀(dD bH:List (List Hn)),vs=bH++dD→∀m:List (List D),m.length≤3*bH.length→Rn F X 110 2 [.sl (cs.map Cm.s),jD cs.length,jD pre.length,.sl (cL vs),jD vs.length,jD bH.length,.str nm,.sl (fl.map Fg.d),.sl (lk.map Lk.d),.sl m] (·=[.bool true]):=by
    intro dD
    induction dD with
    |nil=>
     intro bH aY m hm;rw[xj] at aY;subst aY;exact wr rfl<|wn rfl ak<|wo rfl bf<|wn rfl c7<|wo rfl oA<|wj next
    |cons hs dD eH=>
     intro bH aY m hm;have xX:=bu aY;have lE:=bR (f:=fun l=>[D.sl (l.map Hn.s)]) aY;have hhs:=cw.hs hs (by show hs∈vs;rw[aY];simp);have hh3:hs.length≤3:=hhs.1;have iN:=eH (bH++[hs]) (by rw[aY,bp]);rw[xa,show[hs].length=1 from rfl] at iN;have mh:∀(dI bw:List Hn),hs=bw++dI→∀m:List (List D),m.length≤3*bH.length+bw.length→Rn F X 110 3 [.sl (cs.map Cm.s),jD cs.length,jD pre.length,.sl (cL vs),jD vs.length,jD bH.length,.sl (hs.map Hn.s),jD hs.length,jD bw.length,.str nm,.sl (fl.map Fg.d),.sl (lk.map Lk.d),.sl m] (·=[.bool true]):=by
      intro dI
      induction dI with
      |nil=>
       intro bw bF m hm;rw[xj] at bF;subst bF;exact wr rfl<|wn rfl ak<|wo rfl oA<|Wp.jump rfl (iN m (by omega))
      |cons h dI mP=>
       intro bw bF m hm;have xW:=bu bF;have gk:=bR (f:=Hn.s) bF;have eZ:=mP (bw++[h]) (by rw[bF,bp]);rw[xa,show[h].length=1 from rfl] at eZ;obtain⟨hn,ps,bd⟩:=h;have IB:aU .DR [.sl m,.str hn,.bool true]=some (.sl (vH hn (.bool true) m)):=rfl;have hul:=Wl hn (.bool true) m;exact wr rfl<|wy rfl ak<|wo rfl (aB gk rfl)<|wg 1 rfl<|gu<|wo rfl IB<|wo rfl oA<|Wp.jump rfl (eZ _ (by omega))
     have g3:=mh hs [] rfl m (by simpa using hm);exact wr rfl<|wy rfl ak<|wo rfl (aB lE rfl)<|wg 1 rfl<|lH<|wo rfl (aA (ch _ _))<|wj g3
   have g2:=kA vs [] rfl [] (xk _);refine wr rfl<|wy rfl ak<|wo rfl (aB ap rfl)<|wg 1 rfl ?_;dsimp only [dU,Ex.r,St.r,List.cons_append,List.nil_append,df,de,iT,kr,kq,Cm.s];exact wo rfl (aA (ch _ _))<|wo rfl (aA (ch _ _))<|wn rfl c7<|wn rfl ay<|wn rfl c7<|wg 1 rfl<|wo rfl (aA (ch _ _))<|wj g2
 have g:=loop cs [] rfl;exact wr rfl<|wo rfl (aA (n:=cs.length) (ch _ _))<|wn rfl ay<|wn rfl c7<|wo rfl (aA (n:=fl.length) (ch _ _))<|wn rfl c7<|wo rfl (aA (n:=lk.length) (ch _ _))<|wn rfl c7<|wo rfl (aA (n:=cs.length) (ch _ _))<|w8<|wj g
theorem OT(hX:mV X){f:bq}(hf:uV f):Rn F X 41 0 f.s (·=[iD 0]):=by
 have h1:=aU7 hX hf;have h2:=aW3 hX hf;have h3:=aQ3 hX hf;obtain⟨nm,fl,lk,cs⟩:=f;exact wr rfl<|wl rfl h1 rfl<|wl rfl h2 rfl<|wl rfl h3 rfl<|wt rfl rfl
end
end Go.Proofs.YtaginlnifpbfgaaGreatDoor
namespace Go.Fl
open Go.Ex
theorem u5{c c' k k':Nat}(h1:c<200)(h2:c'<200)(h3:k<200)(h4:k'<200)(h:nm c k=nm c' k'):c=c'∧k=k':=by
 simp only [nm,List.cons.injEq,and_true] at h;have e1:=congrArg UInt8.toNat h.1;have e2:=congrArg UInt8.toNat h.2;simp at e1 e2;omega
theorem rO{s:aH}(h:s∈GN):s.length≤6:=by
 have:∀s∈GN,s.length≤6:=by decide
 exact this s h
def qQ(l:List Vr)(s:aH):Option Vr:=l.find? (fun v=>v.name==s)
def zV(l:List Cm)(s:aH):Option Cm:=l.find? (fun v=>v.name==s)
def qg(l:List (List Hn))(s:aH):Option Hn:=l.flatten.find? (fun v=>v.name==s)
def DG:Option Vr→List D|some v=>v.s++[.bool true]|none=>[.str [],bD 0,iD 0,.bool false]
def XH:Option Cm→List D|some v=>v.s++[.bool true]|none=>[.str [],.sl [],.sl [],.bool false]
def P6:Option Hn→List D|some v=>v.s++[.bool true]|none=>[.str [],.sl [],.sl [],.bool false]
def vz(l:List Fg)(s:aH):Bool:=l.any (fun v=>v.name==s)
theorem JF{α:Type}{p:α→Bool}{pre:List α}(h:∀a∈pre,p a=false)(ae:List α):(pre++ae).find? p=ae.find? p:=by
 induction pre with
 |nil=>rfl
 |cons a pre ih=>rw[List.cons_append,List.find?_cons,h a (by simp)];exact ih (fun b hb=>h b (by simp[hb]))
end Go.Fl
namespace Go.Proofs.YtaginlnifpbfgaaGreatDoor
open Go.Ex Go.RowKit Go.Fl
section
variable{X:Nat→List D→Option (List D)}
def S8(l:List aH)(s:aH)(o:List D):Prop:=(s∈l∧∃i,o=[iD i]∧i<l.length∧l[i]? =some s)∨(s∉l∧o=[.int .i64 (-1)])
theorem wz{α:Type}{l pre ae:List α}{a:α}(h:l=pre++a::ae):l[pre.length]? =some a:=by rw[h,xq (xk _),Nat.sub_self];rfl
theorem Dd{l:List aH}(hl:l.length≤1000)(s:aH):Rn F X 43 0 [.sl (strs l),.str s] (S8 l s):=by
 have loop:∀(ae pre:List aH),l=pre++ae→s∉pre→Rn F X 43 1 [.sl (strs l),.str s,jD l.length,jD pre.length] (S8 l s):=by
  intro ae
  induction ae with
  |nil=>
   intro pre hp hn;rw[xj] at hp;subst hp;exact wr rfl<|wn rfl ak<|wt rfl (.inr ⟨hn,rfl⟩)
  |cons a ae ih=>
   intro pre hp hn;have aC:=bu hp;have ap:(strs l)[pre.length]? =some [.str a]:=bR (f:=fun p:aH=>[D.str p]) hp;have cQ5:=wz hp;by_cases hs:s=a
   ·subst hs;exact wr rfl<|wy rfl ak<|wo rfl (aB ap rfl)<|wg 1 rfl<|Wp.fR rfl nG rfl<|wt rfl (.inl ⟨by rw[hp];simp,pre.length,rfl,by omega,cQ5⟩)
   ·have next:=ih (pre++[a]) (by rw[hp,bp]) (by simp[hn,hs]);rw[xa] at next;exact wr rfl<|wy rfl ak<|wo rfl (aB ap rfl)<|wg 1 rfl<|Wp.iG rfl nG hs<|wo rfl oA<|wj next
 exact wr rfl<|wo rfl (aA (xm _))<|Wp.jump rfl (loop l [] rfl (by simp))
theorem yR{l:List aH}(hl:l.length≤1000)(s:aH):Rn F X 42 0 [.sl (strs l),.str s] (·=[.bool (decide (s∈l))]):=by
 refine wr rfl<|wg 1 rfl<|wx rfl (Dd hl s) ?_;rintro _ (⟨hm,i,rfl,hi,_⟩|⟨hm,rfl⟩)
 ·refine⟨rfl,?_⟩;rw[decide_eq_true hm];exact wy rfl Bk<|wt rfl rfl
 ·refine⟨rfl,?_⟩;rw[decide_eq_false hm];exact wg 1 rfl<|wt rfl rfl
theorem Gp{l:List Fg}(hl:l.length≤1000)(s:aH):Rn F X 46 0 [.sl (l.map Fg.d),.str s] (·=[.bool (vz l s)]):=by
 have loop:∀(ae pre:List Fg),l=pre++ae→(∀x∈pre,(x.name==s)=false)→Rn F X 44 1 [.sl (l.map Fg.d),.ptr [.str s] 0,jD l.length,jD pre.length] (fun o=>(vz l s=true∧∃i:Nat,o=[iD i])∨(vz l s=false∧o=[.int .i64 (-1)])):=by
  intro ae
  induction ae with
  |nil=>
   intro pre hp hn;rw[xj] at hp;subst hp;exact wr rfl<|wn rfl ak<|wt rfl (.inr ⟨List.any_eq_false.2 (fun x hx=>by rw[hn x hx];exact Bool.false_ne_true),rfl⟩)
  |cons a ae ih=>
   intro pre hp hn;have aC:=bu hp;have ap:=bR (f:=Fg.d) hp;by_cases hs:a.name=s
   ·have vT:vz l s=true:=List.any_eq_true.2 ⟨a,by rw[hp];simp,by rw[hs];simp⟩;obtain⟨an,ab⟩:=a;cases ab
    ·exact wr rfl<|wy rfl ak<|wo rfl (aB ap rfl)<|wg 2 rfl<|w7<|wg 1 rfl<|Wp.fR rfl nG hs<|wt rfl (.inl ⟨vT,pre.length,rfl⟩)
    ·exact wr rfl<|wy rfl ak<|wo rfl (aB ap rfl)<|wg 1 rfl<|w7<|wg 1 rfl<|Wp.fR rfl nG hs<|wt rfl (.inl ⟨vT,pre.length,rfl⟩)
   ·have next:=ih (pre++[a]) (by rw[hp,bp]) (fun x hx=>by
     rcases xF.1 hx with hx|hx
     ·exact hn x hx
     ·rw[xy] at hx;subst hx;simpa using hs)
    rw[xa] at next;obtain⟨an,ab⟩:=a;cases ab
    ·exact wr rfl<|wy rfl ak<|wo rfl (aB ap rfl)<|wg 2 rfl<|w7<|wg 1 rfl<|Wp.iG rfl nG hs<|wo rfl oA<|wj next
    ·exact wr rfl<|wy rfl ak<|wo rfl (aB ap rfl)<|wg 1 rfl<|w7<|wg 1 rfl<|Wp.iG rfl nG hs<|wo rfl oA<|wj next
 have ent:Rn F X 44 0 [.sl (l.map Fg.d),.ptr [.str s] 0] (fun o=>(vz l s=true∧∃i:Nat,o=[iD i])∨(vz l s=false∧o=[.int .i64 (-1)])):=by
  exact wr rfl<|wo rfl (aA (ch _ _))<|Wp.jump rfl (loop l [] rfl (fun x hx=>by cases hx))
 refine wr rfl<|wg 2 rfl<|wx rfl ent ?_;rintro _ (⟨hm,i,rfl⟩|⟨hm,rfl⟩)
 ·refine⟨rfl,?_⟩;rw[hm];exact wy rfl Bk<|wt rfl rfl
 ·refine⟨rfl,?_⟩;rw[hm];exact wg 1 rfl<|wt rfl rfl
theorem yP{l:List Vr}(hl:l.length≤1000)(s:aH):Rn F X 47 0 [.sl (l.map Vr.s),.str s] (·=DG (qQ l s)):=by
 have loop:∀(ae pre:List Vr),l=pre++ae→(∀x∈pre,(x.name==s)=false)→Rn F X 47 1 [.str s,.sl (l.map Vr.s),jD l.length,jD pre.length] (·=DG (qQ l s)):=by
  intro ae
  induction ae with
  |nil=>
   intro pre hp hn;rw[xj] at hp;subst hp;have hz:qQ l s=none:=List.find?_eq_none.2 (fun x hx=>by rw[hn x hx];exact Bool.false_ne_true);rw[hz];exact wr rfl<|wn rfl ak<|wt rfl rfl
  |cons a ae ih=>
   intro pre hp hn;have aC:=bu hp;have ap:=bR (f:=Vr.s) hp;by_cases hs:a.name=s
   ·have hz:qQ l s=some a:=by unfold qQ;rw[hp,JF hn,List.find?_cons,show(a.name==s)=true by rw[hs];simp]
    rw[hz];obtain⟨a1,a2,a3⟩:=a;exact wr rfl<|wy rfl ak<|wo rfl (aB ap rfl)<|wg 1 rfl<|w8<|Wp.fR rfl nG hs<|wt rfl rfl
   ·have next:=ih (pre++[a]) (by rw[hp,bp]) (fun x hx=>by
     rcases xF.1 hx with hx|hx
     ·exact hn x hx
     ·rw[xy] at hx;subst hx;simpa using hs)
    rw[xa] at next;obtain⟨a1,a2,a3⟩:=a;exact wr rfl<|wy rfl ak<|wo rfl (aB ap rfl)<|wg 1 rfl<|w8<|Wp.iG rfl nG hs<|wo rfl oA<|wj next
 exact wr rfl<|wo rfl (aA (ch _ _))<|Wp.jump rfl (loop l [] rfl (fun x hx=>by cases hx))
theorem Jd{l:List Cm}(hl:l.length≤1000)(s:aH):Rn F X 49 0 [.sl (l.map Cm.s),.str s] (·=XH (zV l s)):=by
 have loop:∀(ae pre:List Cm),l=pre++ae→(∀x∈pre,(x.name==s)=false)→Rn F X 49 1 [.str s,.sl (l.map Cm.s),jD l.length,jD pre.length] (·=XH (zV l s)):=by
  intro ae
  induction ae with
  |nil=>
   intro pre hp hn;rw[xj] at hp;subst hp;have hz:zV l s=none:=List.find?_eq_none.2 (fun x hx=>by rw[hn x hx];exact Bool.false_ne_true);rw[hz];exact wr rfl<|wn rfl ak<|wt rfl rfl
  |cons a ae ih=>
   intro pre hp hn;have aC:=bu hp;have ap:=bR (f:=Cm.s) hp;by_cases hs:a.name=s
   ·have hz:zV l s=some a:=by unfold zV;rw[hp,JF hn,List.find?_cons,show(a.name==s)=true by rw[hs];simp]
    rw[hz];obtain⟨a1,a2,a3⟩:=a;exact wr rfl<|wy rfl ak<|wo rfl (aB ap rfl)<|wg 1 rfl<|w8<|Wp.fR rfl nG hs<|wt rfl rfl
   ·have next:=ih (pre++[a]) (by rw[hp,bp]) (fun x hx=>by
     rcases xF.1 hx with hx|hx
     ·exact hn x hx
     ·rw[xy] at hx;subst hx;simpa using hs)
    rw[xa] at next;obtain⟨a1,a2,a3⟩:=a;exact wr rfl<|wy rfl ak<|wo rfl (aB ap rfl)<|wg 1 rfl<|w8<|Wp.iG rfl nG hs<|wo rfl oA<|wj next
 exact wr rfl<|wo rfl (aA (ch _ _))<|Wp.jump rfl (loop l [] rfl (fun x hx=>by cases hx))
theorem N6{l:List (List Hn)}(hl:l.length≤1000)(bG:∀v∈l,v.length≤1000)(s:aH):Rn F X 48 0 [.sl (cL l),.str s] (·=P6 (qg l s)):=by
 have loop:∀(ae pre:List (List Hn)),l=pre++ae→(∀x∈pre.flatten,(x.name==s)=false)→Rn F X 48 1 [.str s,.sl (cL l),jD l.length,jD pre.length] (·=P6 (qg l s)):=by
  intro ae
  induction ae with
  |nil=>
   intro pre hp hn;rw[xj] at hp;subst hp;have hz:qg l s=none:=List.find?_eq_none.2 (fun x hx=>by rw[hn x hx];exact Bool.false_ne_true);rw[hz];exact wr rfl<|wn rfl ak<|wt rfl rfl
  |cons a ae ih=>
   intro pre hp hn;have aC:=bu hp;have ap:(cL l)[pre.length]? =some [.sl (a.map Hn.s)]:=bR (f:=fun l:List Hn=>[D.sl (l.map Hn.s)]) hp;have Ue:=bG a (by rw[hp];simp);have next:=ih (pre++[a]) (by rw[hp,bp]);rw[xa] at next;have Rg:∀(dD bH:List Hn),a=bH++dD→(∀x∈bH,(x.name==s)=false)→Rn F X 48 2 [.str s,.sl (cL l),jD l.length,jD pre.length,.sl (a.map Hn.s),jD a.length,jD bH.length] (·=P6 (qg l s)):=by
    intro dD
    induction dD with
    |nil=>
     intro bH aY jk;rw[xj] at aY;subst aY;have next:=next (fun x hx=>by
      rw[List.flatten_append] at hx;rcases xF.1 hx with hx|hx
      ·exact hn x hx
      ·exact jk x (by simpa using hx))
     exact wr rfl<|wn rfl ak<|wo rfl oA<|wj next
    |cons b dD eH=>
     intro bH aY jk;have xX:=bu aY;have lE:=bR (f:=Hn.s) aY;by_cases hs:b.name=s
     ·have hz:qg l s=some b:=by
       unfold qg;rw[hp,List.flatten_append,JF hn,List.flatten_cons,aY,List.append_assoc,JF jk,List.cons_append,List.find?_cons,show(b.name==s)=true by rw[hs];simp]
      rw[hz];obtain⟨b1,b2,b3⟩:=b;exact wr rfl<|wy rfl ak<|wo rfl (aB lE rfl)<|wg 1 rfl<|dh<|Wp.fR rfl nG hs<|wt rfl rfl
     ·have iN:=eH (bH++[b]) (by rw[aY,bp]) (fun x hx=>by
       rcases xF.1 hx with hx|hx
       ·exact jk x hx
       ·rw[xy] at hx;subst hx;simpa using hs)
      rw[xa] at iN;obtain⟨b1,b2,b3⟩:=b;exact wr rfl<|wy rfl ak<|wo rfl (aB lE rfl)<|wg 1 rfl<|dh<|Wp.iG rfl nG hs<|wo rfl oA<|wj iN
   exact wr rfl<|wy rfl ak<|wo rfl (aB ap rfl)<|wg 1 rfl<|w6<|wo rfl (aA (ch _ _))<|Wp.jump rfl (Rg a [] rfl (fun x hx=>by cases hx))
 exact wr rfl<|wo rfl (aA (xm _))<|Wp.jump rfl (loop l [] rfl (fun x hx=>by cases hx))
abbrev fw(f:bq)(w:aH):List D:=[.str f.name,.sl (f.flags.map Fg.d),.sl (f.links.map Lk.d),.sl (f.comps.map Cm.s),.str w,.str [],.str [],iD 0]
theorem Oj(f:bq)(w n:aH):Rn F X 52 0 (fw f w++[iD 0,.str n]) (·= .bool true::fw f w):=by
 exact wr rfl<|wg 3 rfl<|wt rfl rfl
theorem HH(f:bq)(w w':aH):Rn F X 53 0 (fw f w++[.str w']) (·= .bool true::fw f w'):=by
 exact wr rfl<|wg 1 rfl<|wt rfl rfl
theorem yV(f:bq)(w n:aH)(e:Nat):Rn F X 50 0 (fw f w++[iD e,.str n]) (·= .bool true::fw f w):=by
 exact wr rfl<|wl rfl (Oj f w n) rfl<|wt rfl rfl
end
end Go.Proofs.YtaginlnifpbfgaaGreatDoor
