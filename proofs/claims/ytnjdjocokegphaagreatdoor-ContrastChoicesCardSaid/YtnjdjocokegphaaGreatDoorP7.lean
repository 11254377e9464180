/- What these functions answer. -/
import Derived.Test.YtnjdjocokegphaaGreatDoorP6
import Derived.KernelRfl
import Derived.Test.YtnjdjocokegphaaGreatDoorP1
import Derived.Test.YtnjdjocokegphaaGreatDoorA0
import Derived.Test.YtnjdjocokegphaaGreatDoorP2
set_option linter.unusedVariables false
set_option linter.unusedSimpArgs false
set_option maxHeartbeats 4000000
set_option maxRecDepth 100000
namespace Go.Proofs.YtnjdjocokegphaaGreatDoor
open Go.Ex Go.RowKit Go.Fl
noncomputable section
section
variable{X:Nat→List D→Option (List D)}
theorem Kb{ps:List aL}(hp:ps.length≤20)(hs:cM ps≤6000){t:List UInt8}{ind:Nat}(hi:ind≤60)(ht:t.length≤200000000000):Rn F X 100 0 [.sl (bO t),jD ind,.sl (strs ps)] (WQ t ind 6200):=
 (dH4 (X:=X) hp hi (by omega)).mono fun _ ⟨t',e,h1,h2⟩=>⟨t',e,h1,by omega⟩
theorem wq{t t':List UInt8}{ind m:Nat}(h1:t.length≤t'.length)(h2:t'.length≤t.length+m):WQ t ind m [.sl (bO t'),jD ind]:=⟨t',rfl,h1,h2⟩
theorem bf7(hP:wJ X){kind:Nat}{name bV:aL}{bg:List Fl.Ex}{th el:List St}(hs:R6 kind name bV bg th el)(cz:BW X th)(cg:BW X el){t:List UInt8}{ind:Nat}(hi:ind≤41)(sR:ind+St.ns th≤40)(eY:ind+St.ns el≤40)(hl:t.length+20000*(1+St.ns th+St.ns el)≤100000000000)
 (h7:kind=7→∀es:List aL,es.length=bg.length→(∀e∈es,e.length≤1260)→Rn F X 102 1 [.sl (strs es),.sl (Ex.ss bg),jD bg.length,jD bg.length,.sl (bO t),jD ind,bD kind,.str name,.str bV,.sl (St.ss th),.sl (St.ss el)] (WQ t ind (20000*(1+St.ns th+St.ns el)))):
 Rn F X 102 0 ([.sl (bO t),jD ind]++St.s ⟨kind,name,bV,bg,th,el⟩) (WQ t ind (20000*(1+St.ns th+St.ns el))):=by
 have fH:bg.length≤3:=by have:=hs.ln;omega
 have jV:name.length≤6:=by
  rcases hs.nm with⟨_,h⟩|⟨_,rfl⟩
  ·exact qd h
  ·exact xL _
 have nO:bV.length≤6:=by
  rcases hs.hn with⟨_,h⟩|⟨_,rfl⟩
  ·exact qd h
  ·exact xL _
 have k1:=hs.k1;have wh:=hs.wh;have US:=hs.ln;have kL:=mW el;have fin:∀es:List aL,es.length=bg.length→(∀e∈es,e.length≤1260)→Rn F X 102 1 [.sl (strs es),.sl (Ex.ss bg),jD bg.length,jD bg.length,.sl (bO t),jD ind,bD kind,.str name,.str bV,.sl (St.ss th),.sl (St.ss el)] (WQ t ind (20000*(1+St.ns th+St.ns el))):=by
  intro es cb he;have L:=fun(ps:List aL) (hp:ps.length≤20) (hs:cM ps≤6000) (t1:List UInt8) (ht:t1.length≤200000000000)=>Kb (X:=X) (ps:=ps) hp hs (ind:=ind) (by omega) ht
  have iL:kind=1∨kind=2∨kind=3∨kind=4∨kind=5∨kind=6∨kind=7∨kind=8∨kind=9∨kind=10:=by omega
  rcases iL with rfl|rfl|rfl|rfl|rfl|rfl|rfl|rfl|rfl|rfl
  ·obtain⟨a,rfl⟩:=vN (show es.length=1 by omega);have ha:=he a (by simp);refine wr rfl<|wn rfl af<|wg 5 rfl<|wx rfl (L [name,[32,61,32],a,[59]] (by simp) (by simp only [cM,xi,xd] at*;omega) t (by omega)) fun|_,⟨t1,rfl,yR,yQ⟩=>⟨rfl,?_⟩
   exact wt rfl (wq (by omega) (by omega))
  ·obtain⟨a,b,rfl⟩:=Me (show es.length=2 by omega);have ha:=he a (by simp);have hb:=he b (by simp);refine wr rfl<|wn rfl af<|wg 8 rfl<|wx rfl (L [name,[91],a,[93,32,61,32],b,[59]] (by simp) (by simp only [cM,xi,xd] at*;omega) t (by omega)) fun|_,⟨t1,rfl,yR,yQ⟩=>⟨rfl,?_⟩
   exact lG<|wt rfl (wq (by omega) (by omega))
  ·obtain⟨a,rfl⟩:=vN (show es.length=1 by omega);have ha:=he a (by simp);refine wr rfl<|wn rfl af<|wg 7 rfl<|wx rfl (L [[100,101,108,101,116,101,32],name,[91],a,[93,59]] (by simp) (by simp only [cM,xi,xd] at*;omega) t (by omega)) fun|_,⟨t1,rfl,yR,yQ⟩=>⟨rfl,?_⟩
   exact wt rfl (wq (by omega) (by omega))
  ·obtain⟨a,rfl⟩:=vN (show es.length=1 by omega);have ha:=he a (by simp);rcases xI el.length with h0|h0
   ·refine wr rfl<|wn rfl af<|wg 8 rfl<|wx rfl (L [[105,102,32],a,[32,123]] (by simp) (by simp only [cM,xi,xd] at*;omega) t (by omega)) fun|_,⟨t1,rfl,yR,yQ⟩=>⟨rfl,?_⟩
    refine wg 1 rfl<|wx rfl (cz t1 ind (by omega) (by omega)) fun|_,⟨t2,rfl,aG3,aG2⟩=>⟨rfl,?_⟩
    refine fK<|wo rfl (az (lR el))<|wn rfl ch<|wg 2 rfl<|wx rfl (L [[125]] (by simp) (by simp only [cM,xi,xd] at*;omega) t2 (by omega)) fun|_,⟨t5,rfl,aG1,aG0⟩=>⟨rfl,?_⟩
    exact wt rfl (wq (by omega) (by omega))
   ·refine wr rfl<|wn rfl af<|wg 8 rfl<|wx rfl (L [[105,102,32],a,[32,123]] (by simp) (by simp only [cM,xi,xd] at*;omega) t (by omega)) fun|_,⟨t1,rfl,yR,yQ⟩=>⟨rfl,?_⟩
    refine wg 1 rfl<|wx rfl (cz t1 ind (by omega) (by omega)) fun|_,⟨t2,rfl,aG3,aG2⟩=>⟨rfl,?_⟩
    refine fK<|wo rfl (az (lR el))<|wy rfl ch<|wg 2 rfl<|wx rfl (L [[125,32,101,108,115,101,32,123]] (by simp) (by simp only [cM,xi,xd] at*;omega) t2 (by omega)) fun|_,⟨t3,rfl,dE8,dE7⟩=>⟨rfl,?_⟩
    refine wg 1 rfl<|wx rfl (cg t3 ind (by omega) (by omega)) fun|_,⟨t4,rfl,dE6,dE5⟩=>⟨rfl,?_⟩
    refine om<|wg 2 rfl<|wx rfl (L [[125]] (by simp) (by simp only [cM,xi,xd] at*;omega) t4 (by omega)) fun|_,⟨t5,rfl,aG1,aG0⟩=>⟨rfl,?_⟩
    exact wt rfl (wq (by omega) (by omega))
  ·obtain⟨a,rfl⟩:=vN (show es.length=1 by omega);have ha:=he a (by simp);refine wr rfl<|wn rfl af<|wg 9 rfl<|wx rfl (L [[119,104,105,108,101,32],a,[32,123]] (by simp) (by simp only [cM,xi,xd] at*;omega) t (by omega)) fun|_,⟨t1,rfl,yR,yQ⟩=>⟨rfl,?_⟩
   refine wg 1 rfl<|wx rfl (cz t1 ind (by omega) (by omega)) fun|_,⟨t2,rfl,aG3,aG2⟩=>⟨rfl,?_⟩
   refine fK<|wg 2 rfl<|wx rfl (L [[125]] (by simp) (by simp only [cM,xi,xd] at*;omega) t2 (by omega)) fun|_,⟨t5,rfl,aG1,aG0⟩=>⟨rfl,?_⟩
   exact wt rfl (wq (by omega) (by omega))
  ·obtain⟨s9,zf,cj⟩:=hP.join es 1260 (by omega) he (by omega);refine wr rfl<|wn rfl af<|wg 6 rfl<|wl rfl cj rfl<|wg 2 rfl<|wx rfl (L [[115,101,110,100,32],name,[46],bV,[40],s9,[41,59]] (by simp) (by simp only [cM,xi,xd] at*;omega) t (by omega)) fun|_,⟨t1,rfl,yR,yQ⟩=>⟨rfl,?_⟩
   exact wt rfl (wq (by omega) (by omega))
  ·exact h7 rfl es cb he
  ·obtain⟨a,b,rfl⟩:=Me (show es.length=2 by omega);have ha:=he a (by simp);have hb:=he b (by simp);refine wr rfl<|wn rfl af<|wg 10 rfl<|wo rfl (c8 (by simp only [xa,xi,xd];omega))<|wo rfl (c8 (by simp only [xa,xi,xd];omega))<|wg 2 rfl<|dC<|wo rfl (c8 (by simp only [xa,xi,xd];omega))<|wg 1 rfl<|wx rfl (Yb cg (by simp only [xa,xi,xd];omega) (by omega) (by omega)) fun|_,⟨t1,rfl,BA,Bz⟩=>⟨rfl,?_⟩
   exact wt rfl (wq (by omega) (by omega))
  ·obtain⟨a,rfl⟩:=vN (show es.length=1 by omega);have ha:=he a (by simp);refine wr rfl<|wn rfl af<|wg 9 rfl<|wo rfl (c8 (by simp only [xa,xi,xd];omega))<|wo rfl (c8 (by simp only [xa,xi,xd];omega))<|wg 2 rfl<|wo rfl (c8 (by simp only [xa,xi,xd];omega))<|dC<|wg 1 rfl<|wx rfl (Yb cg (by simp only [xa,xi,xd];omega) (by omega) (by omega)) fun|_,⟨t1,rfl,BA,Bz⟩=>⟨rfl,?_⟩
   exact wt rfl (wq (by omega) (by omega))
  ·obtain rfl:es=[]:=xE.1 (by omega);refine wr rfl<|wn rfl af<|wg 12 rfl<|wx rfl (L [[115,116,111,112,59]] (by simp) (by simp only [cM,xi,xd] at*;omega) t (by omega)) fun|_,⟨t1,rfl,yR,yQ⟩=>⟨rfl,?_⟩
   exact wt rfl (wq (by omega) (by omega))
 have loop:∀(ae pre:List Fl.Ex),bg=pre++ae→∀es:List aL,es.length=pre.length→(∀e∈es,e.length≤1260)→Rn F X 102 1 [.sl (strs es++List.replicate ae.length [.str []]),.sl (Ex.ss bg),jD bg.length,jD pre.length,.sl (bO t),jD ind,bD kind,.str name,.str bV,.sl (St.ss th),.sl (St.ss el)] (WQ t ind (20000*(1+St.ns th+St.ns el))):=by
  intro ae
  induction ae with
  |nil=>
   intro pre aH es h1 h2;rw[xj] at aH;rw[show([]:List Fl.Ex).length=0 from rfl,List.replicate_zero,xj,←aH];exact fin es (by rw[h1,aH]) h2
  |cons a ae ih=>
   intro pre aH es h1 h2;have aF:=bj aH;have aq:(Ex.ss bg)[pre.length]? =some (Ex.s a):=by rw[aH];exact rN _ _ _
   have ha:=hs.ex a (by rw[aH];simp);have aU:=ha.1.sz6 ha.2;have ct:=bp3 (X:=X) hP ha.1 (by omega);have bc:∀s:aL,aN (.fO 0) [.sl (strs es++List.replicate (ae.length+1) [.str []]),jD pre.length,.str s]=some (.sl (strs (es++[s])++List.replicate ae.length [.str []])):=fun s=>by
    have e0:(strs es).length=pre.length:=by rw[rH,h1]
    rw[←e0,Cv (ds:=[.str s]) Ce (show([D.str []]:List D).length=[D.str s].length from rfl),B7,Oy]
   have mS:aN .jF [.sl (strs es++List.replicate (ae.length+1) [D.str []]),jD pre.length]=some (.bool (decide (pre.length<bg.length))):=fm (by simp[rH];omega);have next:=fun(s:aL) (hs:s.length≤1260)=>ih (pre++[a]) (by rw[aH,aV]) (es++[s]) (by simp[h1]) (fun e he=>by
    rcases xF.1 he with he|he
    ·exact h2 e he
    ·rw[xy] at he;subst he;exact hs)
   have e1:(pre++[a]).length=pre.length+1:=by simp
   rw[e1] at next;rw[show(a::ae).length=ae.length+1 from rfl];obtain⟨o1,n1,i1,a1⟩:=a;refine wr rfl<|wy rfl af<|wo rfl (aA aq rfl)<|wg 1 rfl<|lG<|wg 1 rfl<|wx rfl ct fun|_,⟨s,rfl,fX⟩=>⟨rfl,?_⟩
   exact wy rfl mS<|wo rfl (bc s)<|wo rfl oA<|Wp.jump rfl (next s (by omega))
 have g:=loop bg [] rfl [] rfl (fun e h=>by cases h);exact wr rfl<|w8<|wo rfl (az (jf _))<|wo rfl (Cx rfl (by omega) (by omega))<|wo rfl (az (jf _))<|wj g
end
section
variable{X:Nat→List D→Option (List D)}
def CH(X:Nat→List D→Option (List D)):Prop:=∀(bV:aL) (bg:List Fl.Ex) (es:List aL) (t:List UInt8) (ind:Nat),1≤bg.length→bg.length≤3→es.length=bg.length→(∀e∈es,e.length≤1260)→bV.length≤6→ind≤41→t.length≤100000000000→
 Rn F X 102 1 [.sl (strs es),.sl (Ex.ss bg),jD bg.length,jD bg.length,.sl (bO t),jD ind,bD 7,.str [],.str bV,.sl [],.sl []] (WQ t ind 20000)
theorem gO.AG{P:St→Prop}{kind:Nat}{name bV:aL}{bg:List Fl.Ex}{th el:List St}(h:gO P ⟨kind,name,bV,bg,th,el⟩):P ⟨kind,name,bV,bg,th,el⟩∧(∀s∈th,gO P s)∧∀s∈el,gO P s:=by
 cases h with
 |mk a b c=>exact⟨a,b,c⟩
theorem bf9(hP:wJ X)(h7:CH X):∀(m:Nat) (l:List St),St.ns l≤m→(∀s∈l,gO mj s)→BW X l:=by
 intro m
 induction m with
 |zero=>
  intro l hl h t ind hi ht;have:=mW l;obtain rfl:l=[]:=xE.1 (by omega);exact wr rfl<|wo rfl oA<|wo rfl bl<|Wp.jump rfl<|wr rfl<|wg 1 rfl<|wo rfl oW<|wt rfl ⟨t,rfl,by omega,by omega⟩
 |succ m ih=>
  intro l hl h t ind hi ht;have loop:∀(ae pre:List St),l=pre++ae→∀t':List UInt8,t.length≤t'.length→t'.length≤t.length+20000*St.ns pre→Rn F X 103 1 [.sl (St.ss l),jD l.length,jD pre.length,.sl (bO t'),jD (ind+1)] (WQ t ind (20000*St.ns l)):=by
   intro ae
   induction ae with
   |nil=>
    intro pre aH t' q1 q2;rw[xj] at aH;subst aH;exact wr rfl<|wn rfl af<|wo rfl oW<|wt rfl ⟨t',rfl,by omega,by omega⟩
   |cons a ae cZ=>
    intro pre aH t' q1 q2;have aF:=bj aH;have kL:=mW l;have aq:(St.ss l)[pre.length]? =some (St.s a):=by rw[aH];exact xW _ _ _
    have jV:St.ns l=St.ns pre+(St.n a+St.ns ae):=by rw[aH,St.u4];rfl
    have next:=cZ (pre++[a]) (by rw[aH,aV]);rw[xa,St.u4] at next;have ha:=h a (by rw[aH];simp);obtain⟨kind,name,bV,bg,th,el⟩:=a;obtain⟨ja,h1,h2⟩:=gO.AG ha;simp only [St.n] at jV;have ja:R6 kind name bV bg th el:=ja;have nO:bV.length≤6:=by
     rcases ja.hn with⟨_,h⟩|⟨_,rfl⟩
     ·exact qd h
     ·exact xL _
    have c1:=bf7 (X:=X) hP ja (ih th (by omega) h1) (ih el (by omega) h2) (t:=t') (ind:=ind+1) (by omega) (by omega) (by omega) (by omega) (fun hk es ba fT=>by
     subst hk;obtain rfl:name=[]:=by rcases ja.nm with⟨h,_⟩|⟨_,h⟩;omega;exact h
     obtain rfl:th=[]:=by rcases ja.thn with h|h|h;omega;omega;exact h
     obtain rfl:el=[]:=by rcases ja.eln with h|h|h|h;omega;omega;omega;exact h
     have hx:1≤bg.length∧bg.length≤3:=by have:=ja.ln;omega
     exact h7 bV bg es t' (ind+1) hx.1 hx.2 ba fT nO (by omega) (by omega))
    refine wr rfl<|wy rfl af<|wo rfl (aA aq rfl)<|wg 1 rfl<|kF<|wg 1 rfl<|wx rfl c1 fun|_,⟨t2,rfl,q3,q4⟩=>⟨rfl,?_⟩
    exact wo rfl oA<|Wp.jump rfl (next t2 (by omega) (by simp only [St.ns,St.n];omega))
  have g:=loop l [] rfl t (by omega) (by omega);exact wr rfl<|wo rfl oA<|wo rfl (az (lR _))<|wj g
theorem aT5(hP:wJ X)(h7:CH X){l:List Hn}(hl:l.length≤3)(h:∀x∈l,BJ x){t:List UInt8}{ind:Nat}(hi:ind≤20)(ht:t.length≤10000000000):Rn F X 104 0 [.sl (bO t),jD ind,.sl (l.map Hn.s)] (WQ t ind (300000*l.length)):=by
 have loop:∀(ae pre:List Hn),l=pre++ae→∀t':List UInt8,t.length≤t'.length→t'.length≤t.length+300000*pre.length→Rn F X 104 1 [.sl (l.map Hn.s),jD l.length,jD pre.length,.sl (bO t'),jD ind] (WQ t ind (300000*l.length)):=by
  intro ae
  induction ae with
  |nil=>
   intro pre aH t' q1 q2;rw[xj] at aH;subst aH;exact wr rfl<|wn rfl af<|wt rfl ⟨t',rfl,by omega,by omega⟩
  |cons a ae cZ=>
   intro pre aH t' q1 q2;have aF:=bj aH;have aq:=bR (f:=Hn.s) aH;have next:=cZ (pre++[a]) (by rw[aH,aV]);rw[xa] at next;have e1:pre.length+[a].length=pre.length+1:=rfl;rw[e1] at next;have ha:=h a (by rw[aH];simp);have NC:=qd ha.name;obtain⟨s9,zf,cj⟩:=hP.join a.params 6 (by have:=ha.params.1;omega) (fun s hs=>qd (ha.params.2 s hs)) (by omega);have c1:=bf9 (X:=X) hP h7 12 a.body ha.n ha.body;have uv:=ha.n;have L:=fun(ps:List aL) (hp:ps.length≤20) (hs:cM ps≤6000) (t1:List UInt8) (ht:t1.length≤200000000000)=>Kb (X:=X) (ps:=ps) hp hs (ind:=ind) (by omega) ht
   obtain⟨n1,n2,n3⟩:=a;simp only at NC cj c1 uv;refine wr rfl<|wy rfl af<|wo rfl (aA aq rfl)<|wg 1 rfl<|w9<|wl rfl cj rfl<|wg 2 rfl<|wx rfl (L [[111,110,32],n1,[40],s9,[41,32,123]] (by simp) (by simp only [cM,xi,xd];omega) t' (by omega)) fun|_,⟨t1,rfl,BA,Bz⟩=>⟨rfl,?_⟩
   refine wg 1 rfl<|wx rfl (c1 t1 ind (by omega) (by omega)) fun|_,⟨t2,rfl,Et,By⟩=>⟨rfl,?_⟩
   refine dC<|wg 2 rfl<|wx rfl (L [[125]] (by simp) (by simp only [cM,xi,xd];omega) t2 (by omega)) fun|_,⟨t3,rfl,Va,U'⟩=>⟨rfl,?_⟩
   exact wo rfl oA<|Wp.jump rfl (next t3 (by omega) (by omega))
 have g:=loop l [] rfl t (by omega) (by omega);exact wr rfl<|wo rfl (az (bW _ _))<|wj g
end
section
variable{X:Nat→List D→Option (List D)}
abbrev LN(X:Nat→List D→Option (List D))(ind:Nat):Prop:=∀(ps:List aL),ps.length≤20→cM ps≤6000→∀(t1:List UInt8),t1.length≤200000000000→Rn F X 100 0 [.sl (bO t1),jD ind,.sl (strs ps)] (WQ t1 ind 6200)
theorem Nk{ind:Nat}(h:ind≤60):LN X ind:=fun ps hp hs t1 ht=>Kb (X:=X) (ps:=ps) hp hs h ht
theorem dl4:Rn F X 96 0 [] (·=[.str [116,114,117,101]]):=by
 exact wr rfl<|wt rfl rfl
theorem aR3:Rn F X 97 0 [] (·=[.str [102,97,108,115,101]]):=by
 exact wr rfl<|wt rfl rfl
theorem bf8(hP:wJ X)(hI:wK X)(h7:CH X){c:Cm}(hc:Iv c){t:List UInt8}(ht:t.length≤1000000000):Rn F X 105 0 ([.sl (bO t),jD 1]++c.s) (WQ t 1 3000000):=by
 have L1:LN X 1:=Nk (by omega);have L2:LN X 2:=Nk (by omega);have NC:=qd hc.name;have UC:=hc.vars.1;have cx:=hc.vs.2;have j5:∀(ae pre:List (List Hn)),c.bt=pre++ae→∀t':List UInt8,t.length≤t'.length→t'.length≤t.length+40000+1000000*pre.length→Rn F X 105 2 [.sl (cr c.bt),jD c.bt.length,jD pre.length,.sl (bO t'),jD 2] (WQ t 1 3000000):=by
  intro ae
  induction ae with
  |nil=>
   intro pre aH t' q1 q2;rw[xj] at aH;have hp':pre.length=c.bt.length:=by rw[aH]
   refine wr rfl<|wn rfl af<|wo rfl (zS (a:=2) (b:=1) (by omega) (by omega))<|wg 2 rfl<|wx rfl (L1 [[125]] (by simp) (by simp only [cM,xi,xd];omega) t' (by omega)) fun|_,⟨t3,rfl,Va,U'⟩=>⟨rfl,?_⟩
   exact wt rfl ⟨t3,rfl,by omega,by omega⟩
  |cons a ae cZ=>
   intro pre aH t' q1 q2;have aF:=bj aH;have aq:(cr c.bt)[pre.length]? =some [.sl (a.map Hn.s)]:=bR (f:=fun l:List Hn=>[D.sl (l.map Hn.s)]) aH;have next:=cZ (pre++[a]) (by rw[aH,aV]);rw[xa] at next;have e1:pre.length+[a].length=pre.length+1:=rfl;rw[e1] at next;have ha:=hc.hs a (by rw[aH];simp);have U7:=ha.1;have cH:=fun(t1:List UInt8) (ind:Nat) (hi:ind≤20) (h:t1.length≤10000000000)=>aT5 (X:=X) hP h7 ha.1 ha.2 (t:=t1) hi h
   rcases xI pre.length with h0|h0
   ·rw[h0] at aq next⊢;refine wr rfl<|wy rfl af<|wo rfl (aA aq rfl)<|wg 1 rfl<|w7<|wy rfl au<|wg 1 rfl<|wx rfl (cH t' 2 (by omega) (by omega)) fun|_,⟨t2,rfl,Et,By⟩=>⟨rfl,?_⟩
    exact wo rfl oA<|Wp.jump rfl (next t2 (by omega) (by omega))
   ·obtain⟨s9,zf,ci⟩:=hI.Mo (pre.length+1) (by omega);refine wr rfl<|wy rfl af<|wo rfl (aA aq rfl)<|wg 1 rfl<|w7<|wn rfl au<|wo rfl oA<|wl rfl ci rfl<|wg 2 rfl<|wx rfl (L2 [[118,101,114,115,105,111,110,32],s9,[32,123]] (by simp) (by simp only [cM,xi,xd];omega) t' (by omega)) fun|_,⟨t1,rfl,BA,Bz⟩=>⟨rfl,?_⟩
    refine kF<|wo rfl oA<|wg 1 rfl<|wx rfl (cH t1 3 (by omega) (by omega)) fun|_,⟨t2,rfl,Et,By⟩=>⟨rfl,?_⟩
    refine wo rfl (zS (a:=3) (b:=1) (by omega) (by omega))<|wg 2 rfl<|fK<|wx rfl (L2 [[125]] (by simp) (by simp only [cM,xi,xd];omega) t2 (by omega)) fun|_,⟨t3,rfl,Va,U'⟩=>⟨rfl,?_⟩
    exact wo rfl oA<|Wp.jump rfl (next t3 (by omega) (by omega))
 have FI:∀(ae pre:List Vr),c.vars=pre++ae→∀t':List UInt8,t.length≤t'.length→t'.length≤t.length+6200+6200*pre.length→Rn F X 105 1 [.sl (c.vars.map Vr.s),jD c.vars.length,jD pre.length,.sl (bO t'),jD 2,.str c.name,.sl (cr c.bt)] (WQ t 1 3000000):=by
  intro ae
  induction ae with
  |nil=>
   intro pre aH t' q1 q2;rw[xj] at aH;have hp':pre.length=c.vars.length:=by rw[aH]
   exact wr rfl<|wn rfl af<|wo rfl (az (xm _))<|Wp.jump rfl (j5 c.bt [] rfl t' q1 (by simp;omega))
  |cons a ae cZ=>
   intro pre aH t' q1 q2;have aF:=bj aH;have aq:=bR (f:=Vr.s) aH;have next:=cZ (pre++[a]) (by rw[aH,aV]);rw[xa] at next;have e1:pre.length+[a].length=pre.length+1:=rfl;rw[e1] at next;have ha:=hc.vars.2 a (by rw[aH];simp);have an6:=qd ha.name;have ze:=ha.type;obtain⟨a1,a2,a3⟩:=a;simp only at an6 ze;rcases ze with⟨rfl,hq⟩|⟨rfl|rfl,rfl⟩
   ·obtain⟨s9,zf,ci⟩:=hP.int a3 (by omega);refine wr rfl<|wy rfl af<|wo rfl (aA aq rfl)<|wg 1 rfl<|cW<|wg 1 rfl<|wl rfl ci rfl<|wg 2 rfl<|wx rfl (L2 [[118,97,114,32],a1,[58,32,105,110,116,32,61,32],s9,[59]] (by simp) (by simp only [cM,xi,xd];omega) t' (by omega)) fun|_,⟨t1,rfl,BA,Bz⟩=>⟨rfl,?_⟩
    exact wo rfl oA<|lG<|Wp.jump rfl (next t1 (by omega) (by omega))
   ·refine wr rfl<|wy rfl af<|wo rfl (aA aq rfl)<|wg 1 rfl<|cW<|wg 3 rfl<|wl rfl aR3 rfl<|wg 2 rfl<|wx rfl (L2 [[118,97,114,32],a1,[58,32,98,111,111,108,32,61,32],[102,97,108,115,101],[59]] (by simp) (by simp only [cM,xi,xd];omega) t' (by omega)) fun|_,⟨t1,rfl,BA,Bz⟩=>⟨rfl,?_⟩
    exact wo rfl oA<|lG<|Wp.jump rfl (next t1 (by omega) (by omega))
   ·refine wr rfl<|wy rfl af<|wo rfl (aA aq rfl)<|wg 1 rfl<|cW<|wg 5 rfl<|wx rfl (L2 [[118,97,114,32],a1,[58,32,116,97,98,108,101,59]] (by simp) (by simp only [cM,xi,xd];omega) t' (by omega)) fun|_,⟨t1,rfl,BA,Bz⟩=>⟨rfl,?_⟩
    exact wo rfl oA<|Wp.jump rfl (next t1 (by omega) (by omega))
 have g:=FI c.vars [] rfl;obtain⟨c1,c2,c3⟩:=c;simp only at NC;refine wr rfl<|w5<|wg 2 rfl<|wx rfl (L1 [[99,111,109,112,111,110,101,110,116,32],c1,[32,123]] (by simp) (by simp only [cM,xi,xd];omega) t (by omega)) fun|_,⟨t1,rfl,BA,Bz⟩=>⟨rfl,?_⟩
 exact wo rfl (gE (a:=1) (b:=1) (by omega))<|wo rfl (az (bW _ _))<|mK<|Wp.jump rfl (g t1 (by omega) (by simp;omega))
end
section
variable{X:Nat→List D→Option (List D)}
theorem bf6(hP:wJ X):CH X:=by
 intro bV bg es t ind h1 h3 cb he nO hi ht;have L:=fun(ps:List aL) (hp:ps.length≤20) (hs:cM ps≤6000) (t1:List UInt8) (ht:t1.length≤200000000000)=>Kb (X:=X) (ps:=ps) hp hs (ind:=ind) (by omega) ht
 obtain⟨a,r,rfl⟩:∃a r,es=a::r:=by
  cases es with
  |nil=>simp at cb;omega
  |cons a r=>exact⟨a,r,rfl⟩
 have ha:=he a (by simp);have wu:r.length≤3:=by simp at cb;omega
 obtain⟨s9,zf,cj⟩:=hP.join r 1260 wu (fun e h=>he e (by simp[h])) (by omega);have fX:aN (.gw 1) [.sl (strs (a::r)),jD 1]=some (.sl (strs r)):=Jh (a:=1) (by simp[rH]) (fun row h=>(IJ _ row h).1);refine wr rfl<|wn rfl af<|wg 10 rfl<|wo rfl fX<|wl rfl cj rfl<|dC<|wg 2 rfl<|wx rfl (L [[97,102,116,101,114,32],a,[32,100,111,32],bV,[40],s9,[41,59]] (by simp) (by simp only [cM,xi,xd] at*;omega) t (by omega)) fun|_,⟨t1,rfl,yR,yQ⟩=>⟨rfl,?_⟩
 exact wt rfl ⟨t1,rfl,by omega,by simp only [cM,xi,xd] at*;omega⟩
end
section
variable{X:Nat→List D→Option (List D)}
def Tg(o:Option (List D)):Bool:=match o with|some [.bool true]=>true|_=>false
def Mp(o:Option (List D)):Bool:=match o with|some [.str s]=>decide (s.length≤3)|_=>false
theorem bt2{o:Option (List D)}(h:Tg o=true):o=some [.bool true]:=by
 unfold Tg at h;split at h
 ·rfl
 ·cases h
theorem XW{o:Option (List D)}(h:Mp o=true):∃s:aL,s.length≤3∧o=some [.str s]:=by
 unfold Mp at h;split at h
 ·exact⟨_,of_decide_eq_true h,rfl⟩
 ·cases h
theorem Rn.Uq{i n:Nat}{ds o:List D}(h:exec F X n i 0 ds=some o):Rn F X i 0 ds (·=o):=⟨o,(B8 F X).2 ⟨n,h⟩,rfl⟩
theorem bc1:(GN.all fun s=>Tg (exec F X 30 109 0 [.str s]))=true:=by kernel_rfl
theorem bc4:∀s∈GN,Rn F X 109 0 [.str s] (·=[.bool true]):=fun s hs=>Rn.Uq (bt2 (List.all_eq_true.1 (bc1 (X:=X)) s hs))
theorem bk0:((List.range 13).all fun n=>Mp (exec F X 9 111 0 [iD n]))=true:=by kernel_rfl
theorem bt1:wK X:=⟨fun n hn=>by
 obtain⟨s,h1,h2⟩:=XW (List.all_eq_true.1 (bk0 (X:=X)) n (List.mem_range.2 (by omega)));exact⟨s,h1,Rn.Uq h2⟩⟩
theorem bl3:((List.range 9).all fun n=>Mp (exec F X 9 112 0 [iD n,iD 10]))=true:=by kernel_rfl
theorem bu3:∀n,n≤8→∃s:aL,s.length≤3∧Rn F X 112 0 [iD n,iD 10] (·=[.str s]):=fun n hn=>by
 obtain⟨s,h1,h2⟩:=XW (List.all_eq_true.1 (bl3 (X:=X)) n (List.mem_range.2 (by omega)));exact⟨s,h1,Rn.Uq h2⟩
end
section
variable{X:Nat→List D→Option (List D)}
theorem Xc:∀l:List UInt8,vc (bO l).flatten=some l
 |[]=>rfl
 |b::l=>by
  show(if b.toNat<256 then(vc (bO l).flatten).map (fun r=>b.toNat.toUInt8::r) else none)=_;rw[if_pos b.toNat_lt,Xc l];simp
theorem WT{t:List UInt8}(h:t.length≤1000000000000):aN .z7 [.sl (bO t),jD t.length]=some (.str t):=by
 show(if((t.length:Nat):Int)=((bO t).length:Int)∧(bO t).length≤9223372036854775807 then(vc (bO t).flatten).map D.str else none)=_;rw[if_pos ⟨by rw[rD],by rw[rD];omega⟩,Xc];rfl
theorem bC1{n:Nat}(h:n≤1000000000):aN (.j6 1 1) [jD n,jD n,.int .u8 0]=some (.sl (List.replicate n [.int .u8 0])):=by
 show(if _ then _ else none)=_;rw[if_pos ⟨rfl,xk _,by simp[lj];omega⟩]
theorem WK{l pre ae:List aL}{a:aL}(h:l=pre++a::ae):(strs l)[pre.length]? =some [.str a]:=bR (f:=fun p=>[D.str p]) h
theorem cl7{m:Nat}(hm:m≤100000){r:List aL}(hr:r.length≤3)(h:∀s∈r,s.length≤m):∀(ae pre:List aL),r=pre++ae→∀t:List UInt8,1≤t.length+ae.length→t.length+(m+2)*ae.length≤1000000→Rn F X 113 2 [.str [44,32],.sl (strs r),jD r.length,jD pre.length,.sl (bO t)] (fun o=>∃s:aL,o=[.str s]∧s.length≤t.length+(m+2)*ae.length):=by
 intro ae
 induction ae with
 |nil=>
  intro pre hp t h1 h2;rw[xj] at hp;have hp':pre.length=r.length:=by rw[hp]
  have h1:1≤t.length:=by simpa using h1
  exact wr rfl<|wn rfl af<|wo rfl (az (rD _))<|wy rfl (fm (k:=0) (rD _))<|wo rfl (WT (by omega))<|wt rfl ⟨t,rfl,by simp⟩
 |cons a ae ih=>
  intro pre hp t h1 h2;have aF:=bj hp;have aq:=WK hp;have ha:=h a (by rw[hp];simp);have ov:ae.length≤2:=by omega
  have next:=fun(t':List UInt8)=>ih (pre++[a]) (by rw[hp,aV]) t'
  rw[xa,show[a].length=1 from rfl] at next;have Vl:=uT (t:=t) (s:=[44,32]) (by simp;omega);have l1:(t++[44,32]).length=t.length+2:=by simp
  have ap2:=uT (t:=t++[44,32]) (s:=a) (by rw[l1];omega);have Dx:(m+2)*(ae.length+1)=(m+2)*ae.length+(m+2):=Nat.mul_succ _ _;rw[show(a::ae).length=ae.length+1 from rfl] at h2⊢;have l2:(t++[44,32]++a).length=t.length+2+a.length:=by rw[xa,l1]
  have nx:=(next (t++[44,32]++a) (by omega) (by omega)).mono (Q':=fun o=>∃s:aL,o=[.str s]∧s.length≤t.length+(m+2)*(ae.length+1)) (fun o ⟨s,e1,e2⟩=>⟨s,e1,by rw[l2] at e2;omega⟩);exact wr rfl<|wy rfl af<|wo rfl (aA aq rfl)<|wg 2 rfl<|wo rfl Vl<|wg 1 rfl<|w9<|wg 1 rfl<|wo rfl ap2<|wg 1 rfl<|wo rfl oA<|wj nx
theorem bt0:∀(l:List aL) (m:Nat),l.length≤3→(∀s∈l,s.length≤m)→m≤100000→∃s:aL,s.length≤3*m+4∧Rn F X 113 0 [.sl (strs l),.str [44,32]] (·=[.str s]):=by
 intro l m hl h hm
 match l,hl,h with
 |[],_,_=>
  refine⟨[],xL _,?_⟩;exact wr rfl<|wg 2 rfl<|wt rfl rfl
 |[a],_,h=>
  have ha:=h a (by simp);refine⟨a,by omega,?_⟩;exact wr rfl<|wg 5 rfl<|wt rfl rfl
 |a::b::r,hl,h=>
  have ha:=h a (by simp);have hr:(b::r).length≤2:=by simp at hl⊢;omega
  generalize hq:b::r=q at*;have hq1:1≤q.length:=by rw[←hq];simp
  have j2:=fun(t:List UInt8) (h1:t.length≤m)=>cl7 (X:=X) hm (r:=q) (by omega) (fun s hs=>h s (by simp[hs])) q [] rfl t (by omega) (by
   have:(m+2)*q.length≤(m+2)*2:=Nat.mul_le_mul_left _ hr;omega)
  have key:Rn F X 113 0 [.sl (strs (a::q)),.str [44,32]] (fun o=>∃s:aL,o=[.str s]∧s.length≤3*m+4):=by
   have cf1:∀(ae pre:List aL),a::q=pre++ae→∀n:Nat,2≤n→n≤10+m*pre.length→Rn F X 113 1 [.sl (strs (a::q)),.str [44,32],jD n,jD (a::q).length,jD pre.length] (fun o=>∃s:aL,o=[.str s]∧s.length≤3*m+4):=by
    intro ae
    induction ae with
    |nil=>
     intro pre hp n h1 h2;rw[xj] at hp;have hp':pre.length=q.length+1:=by rw[←hp];rfl
     have hn:n≤10+m*3:=xH h2 (Nat.add_le_add_left (Nat.mul_le_mul_left _ (by omega)) _);have aq:(strs (a::q))[0]? =some [.str a]:=rfl;have Vl:aN (.app 1 1) [.sl [],.str a]=some (.sl (bO a)):=uT (t:=[]) (s:=a) (by simp;omega);have fX:aN (.gw 1) [.sl (strs (a::q)),jD 1]=some (.sl (strs q)):=Jh (a:=1) (by simp[rH]) (fun row h=>(IJ _ row h).1);have nx:=(j2 a (by omega)).mono (Q':=fun o=>∃s:aL,o=[.str s]∧s.length≤3*m+4) (fun o ⟨s,e1,e2⟩=>⟨s,e1,by
      have:(m+2)*q.length≤(m+2)*2:=Nat.mul_le_mul_left _ hr;omega⟩)
     exact wr rfl<|Wp.cN rfl af (by simp;omega)<|wn rfl (af (a:=(n:Int)) (b:=0))<|wy rfl (af (a:=0) (b:=(n:Int)))<|wo rfl (gE (a:=0) (b:=n) (by omega))<|wo rfl (bC1 (n:=0+n) (by omega))<|wg 1 rfl<|wo rfl (aA aq rfl)<|w9<|wg 2 rfl<|wo rfl Vl<|wg 1 rfl<|wo rfl fX<|jq<|wo rfl (az (rH _))<|wj nx
    |cons x ae ih=>
     intro pre hp n h1 h2;have aF:=bj hp;have aq:=WK hp;have hx:=h x (by rw[show a::q=pre++x::ae from hp];simp);have gi:pre.length≤2:=by simp at aF;omega
     have hn:n≤10+m*2:=xH h2 (Nat.add_le_add_left (Nat.mul_le_mul_left _ gi) _);have next:=ih (pre++[x]) (by rw[hp,aV]) (n+x.length) (by omega) (by rw[xa,show[x].length=1 from rfl,Nat.mul_add];omega);rw[xa,show[x].length=1 from rfl] at next;exact wr rfl<|wy rfl af<|wo rfl (aA aq rfl)<|wg 2 rfl<|wo rfl (zS (a:=9223372036854775807) (b:=n) (by omega) (by omega))<|w9<|wn rfl ch<|wg 1 rfl<|wo rfl (gE (a:=n) (b:=x.length) (by omega))<|wo rfl (gE (a:=pre.length) (b:=1) (by omega))<|wj next
   have e1:(strs (a::q)).length=q.length+1:=by rw[rH];rfl
   have g:=fun n (h1:2≤n) (h2:n≤10)=>cf1 (a::q) [] rfl n h1 (by omega)
   rw[show(a::q).length=q.length+1 from rfl] at g;have pR:q.length=1∨q.length=2:=by omega
   rcases pR with e|e
   ·rw[e] at e1 g;exact wr rfl<|wo rfl (az e1)<|wg 5 rfl<|wo rfl (az e1)<|w6<|wg 4 rfl<|wo rfl (az e1)<|mK<|wg 3 rfl<|wo rfl (az e1)<|kf<|Wp.jump rfl (g _ (by decide) (by decide))
   ·rw[e] at e1 g;exact wr rfl<|wo rfl (az e1)<|wg 5 rfl<|wo rfl (az e1)<|w6<|wg 4 rfl<|wo rfl (az e1)<|mK<|wg 3 rfl<|wo rfl (az e1)<|kf<|Wp.jump rfl (g _ (by decide) (by decide))
  obtain⟨o,h1,s,rfl,h2⟩:=key;exact⟨s,h2,_,h1,rfl⟩
theorem xpr:wJ X:=⟨bu3,bt0⟩
end
open Go.Ex Go.RowKit
def v8(k:xO)(l:List D):Prop:=∀d∈l,kP k d
theorem zJ{k:xO}{d:D}(h:kP k d):d.cell=true:=by obtain⟨n,rfl,_⟩:=h;rfl
def cY(ks:List (Option xO))(env:List D):Prop:=ks.length=env.length∧∀(i:Nat) (k:xO),ks[i]? =some (some k)→∃d,env[i]? =some d∧kP k d
theorem cY.app{a b:List (Option xO)}{x y:List D}(h:cY a x)(g:cY b y):cY (a++b) (x++y):=by
 refine⟨by simp[h.1,g.1],fun i k hi=> ?_⟩;by_cases hl:i<a.length
 ·rw[xw hl] at hi;obtain⟨d,h1,h2⟩:=h.2 i k hi;exact⟨d,by rw[xw (by rw[←h.1];exact hl)];exact h1,h2⟩
 ·rw[xq (by omega)] at hi;obtain⟨d,h1,h2⟩:=g.2 _ k hi;exact⟨d,by rw[xq (by rw[←h.1];omega),←h.1];exact h1,h2⟩
theorem cY.oo{k:xO}{l:List D}{n:Nat}(hn:l.length=n)(h:v8 k l):cY (List.replicate n (some k)) l:=by
 refine⟨by simp[hn],fun i k' hi=> ?_⟩;have hl:=(xe.1 hi).1;rw[List.length_replicate] at hl;rw[List.getElem?_replicate,if_pos hl] at hi;cases hi;have bF:i<l.length:=by omega
 exact⟨l[i],xc bF,h _ (List.getElem_mem bF)⟩
theorem cY.one{k:xO}{d:D}(h:kP k d):cY [some k] [d]:=cY.oo (n:=1) rfl (fun x hx=>by rw[xy] at hx;subst hx;exact h)
theorem cY.nI{d:D}:cY [none] [d]:=⟨rfl,fun i k hi=>by cases i with|zero=>simp at hi|succ i=>simp at hi⟩
def kB(l:List (Option xO)):Nat→T (Option xO)→T (Option xO):=List.rec (motive:=fun _=>Nat→T (Option xO)→T (Option xO)) (fun _ t=>t) (fun x _ ih i t=>ih (Nat.succ i) (t.set i x)) l
theorem OS(c:Nat)(k:xO):∀(l:List (Option xO)) (i:Nat) (t:T (Option xO)),T.get none (kB l i t) c=some k→(∃j,l[j]? =some (some k)∧c=i+j)∨T.get none t c=some k
 |[],i,t,h=> .inr h
 |x::l,i,t,h=>by
  have h':T.get none (kB l (i+1) (t.set i x)) c=some k:=h;rcases OS c k l (i+1) (t.set i x) h' with⟨j,h1,h2⟩|h1
  ·exact .inl ⟨j+1,by simpa using h1,by omega⟩
  ·by_cases hc:i=c
   ·subst hc;rcases T.wT none t i x with e|⟨e,_⟩
    ·rw[e] at h1;subst h1;exact .inl ⟨0,rfl,rfl⟩
    ·rw[e] at h1;cases h1
   ·rw[T.uN none t i c x hc] at h1;exact .inr h1
def D6(l:List (Option xO)):T (Option xO):=kB l 0 (T.full none 12)
theorem P9{ks:List (Option xO)}{env:List D}(h:cY ks env):∀(c:Nat) (k:xO),T.get none (D6 ks) c=some k→∃d,env[c]? =some d∧kP k d:=fun c k hc=>by
 rcases OS c k ks 0 _ hc with⟨j,h1,h2⟩|h1
 ·rw[Nat.zero_add] at h2;subst h2;exact h.2 _ k h1
 ·rcases T.BK (none:Option xO) none 12 c with e|e<;>(rw[e] at h1;cases h1)
def qb(K:T (Option xO))(l:List xM):Option (List xO):=List.rec (motive:=fun _=>Option (List xO)) (some []) (fun v _ ih=>match vZ K v,ih with|some k,some r=>some (k::r)|_,_=>none) l
def fW:List xO→List D→Prop|[],[]=>True|k::ks,d::ds=>kP k d∧fW ks ds|_,_=>False
theorem zF{K:T (Option xO)}{env:List D}(he:∀c k,T.get none K c=some k→∃d,env[c]? =some d∧kP k d):∀(l:List xM) (ks:List xO),qb K l=some ks→∃ds,aW (bQ (lk env)) l=some ds∧fW ks ds
 |[],ks,h=>by cases h;exact⟨[],rfl,trivial⟩
 |v::l,ks,h=>by
  have h':(match vZ K v,qb K l with|some k,some r=>some (k::r)|_,_=>none)=some ks:=h;split at h'
  ·rename_i k r hk hr;cases h';obtain⟨ds,h1,h2⟩:=zF he l r hr;have hv:∃n:Nat,bQ (lk env) v=some (.int k (.ofNat n))∧n<mk k:=by
    unfold vZ at hk;split at hk
    ·rename_i c;obtain⟨d,h1,n,rfl,h3⟩:=he c k hk;refine⟨n,?_,h3⟩;show(env[c]?).bind _=_;rw[h1];rfl
    ·rename_i k0 n;rcases aB hk with⟨h1,h2⟩|⟨_,h2⟩<;>cases h2
     exact⟨n,rfl,xh h1⟩
    ·cases hk
   obtain⟨n,e1,e2⟩:=hv;exact⟨_::ds,by simp only [aW,e1,h1],⟨n,rfl,e2⟩,h2⟩
  ·cases h'
theorem fW.app:∀{a b:List xO} {l:List D},fW (a++b) l→∃x y,l=x++y∧fW a x∧fW b y
 |[],b,l,h=>⟨[],l,rfl,trivial,h⟩
 |k::a,b,[],h=>h.elim
 |k::a,b,d::l,h=>by
  obtain⟨x,y,rfl,h1,h2⟩:=fW.app (a:=a) h.2;exact⟨d::x,y,rfl,⟨h.1,h1⟩,h2⟩
theorem fW.oo{k:xO}:∀{n:Nat} {l:List D},fW (List.replicate n k) l→l.length=n∧v8 k l
 |0,[],_=>⟨rfl,fun d h=>by cases h⟩
 |0,_::_,h=>h.elim
 |n+1,[],h=>h.elim
 |n+1,d::l,h=>by
  obtain⟨h1,h2⟩:=fW.oo (n:=n) h.2;exact⟨by simp[h1],fun x hx=>by
   rcases xG.1 hx with rfl|hx
   ·exact h.1
   ·exact h2 x hx⟩
theorem c7{l r:List D}{i:Nat}{d:D}(h:l[i]? =some d):(l++r)[i]? =some d:=by
 rw[xw (xe.1 h).1];exact h
theorem jN{l:List D}{n:Nat}{d:D}(h:l.length=n):(l++[d])[n]? =some d:=by
 rw[xq (by omega),h,Nat.sub_self];rfl
theorem d1{env:List D}{i:Nat}{d:D}(h:env[i]? =some d)(hc:d.cell=true):bQ (lk env) (cd i)=some d:=by
 show(env[i]?).bind _=_;rw[h,xB,if_pos hc]
theorem d2{env:List D}{i:Nat}{d:D}(h:env[i]? =some d)(hc:d.cell=true):bT (lk env) (cd i)=some d:=d1 h hc
def BF:Nat→Nat→List xM|_,0=>[]|a,n+1=>cd a::BF (a+1) n
theorem Yc{env:List D}:∀(kG:List D) (a:Nat),(∀i d,kG[i]? =some d→env[a+i]? =some d∧d.cell=true)→aW (bT (lk env)) (BF a kG.length)=some kG
 |[],a,_=>rfl
 |d::kG,a,h=>by
  have h0:=h 0 d rfl;have h1:=Yc kG (a+1) (fun i x hx=>by
   have:=h (i+1) x (by simpa using hx);rw[show a+1+i=a+(i+1) by omega];exact this)
  show(match bT (lk env) (cd a),aW (bT (lk env)) (BF (a+1) kG.length) with|some x,some r=>some (x::r)|_,_=>none)=_;rw[h1,d2 h0.1 h0.2]
theorem zK{env:List D}:∀(kG:List D) (a:Nat),(∀i d,kG[i]? =some d→env[a+i]? =some d∧d.cell=true)→aW (bQ (lk env)) (BF a kG.length)=some kG
 |[],a,_=>rfl
 |d::kG,a,h=>by
  have h0:=h 0 d rfl;have h1:=zK kG (a+1) (fun i x hx=>by
   have:=h (i+1) x (by simpa using hx);rw[show a+1+i=a+(i+1) by omega];exact this)
  show(match bQ (lk env) (cd a),aW (bQ (lk env)) (BF (a+1) kG.length) with|some x,some r=>some (x::r)|_,_=>none)=_;rw[h1,d1 h0.1 h0.2]
theorem cG{g:xM→Option D}{v:xM}{l:List xM}{d:D}{ds:List D}(h:g v=some d)(hl:aW g l=some ds):aW g (v::l)=some (d::ds):=by
 simp only [aW,h,hl]
def jx:List xO:=List.replicate 8 .u32++(List.replicate 64 .u8++[.u64])
structure HS (ws bs:List D) (fL:D):Prop where
 w:ws.length=8
 b:bs.length=64
 aw:v8 .u32 ws
 ab:v8 .u8 bs
 t:kP .u64 fL
theorem HS.of{l:List D}(h:fW jx l):∃ws bs fL,l=ws++(bs++[fL])∧HS ws bs fL:=by
 obtain⟨ws,r,rfl,h1,h2⟩:=fW.app h;obtain⟨bs,t,rfl,h3,h4⟩:=fW.app h2;obtain⟨e1,e2⟩:=h1.oo;obtain⟨e3,e4⟩:=h3.oo
 match t,h4 with
 |[fL],h4=>exact⟨ws,bs,fL,rfl,e1,e3,e2,e4,h4.1⟩
 |[],h4=>exact h4.elim
 |_::_::_,h4=>exact h4.2.elim
def BR(rows:List (List D)):Prop:=∀row∈rows,∃d,row=[d]∧kP .u8 d
theorem BR.drop{rows:List (List D)}(h:BR rows)(n:Nat):BR (rows.drop n):=fun row hr=>h row (List.mem_of_mem_drop hr)
theorem BR.all{rows:List (List D)}(h:BR rows):rows.all (fun r=>r.length==1&&r.all D.cell)=true:=by
 rw[List.all_eq_true];intro row hr;obtain⟨d,rfl,hd⟩:=h row hr;simp[zJ hd]
theorem BR.flat:∀{rows:List (List D)},BR rows→rows.flatten.length=rows.length∧v8 .u8 rows.flatten
 |[],_=>⟨rfl,fun d h=>by simp at h⟩
 |row::rows,h=>by
  obtain⟨d,rfl,hd⟩:=h row (by simp);obtain⟨h1,h2⟩:=BR.flat (rows:=rows) (fun r hr=>h r (by simp[hr]));exact⟨by simp[h1],fun x hx=>by
   rw[List.flatten_cons,xF] at hx;rcases hx with hx|hx
   ·rw[xy] at hx;subst hx;exact hd
   ·exact h2 x hx⟩
theorem bR3{rows:List (List D)}{ei:List D}{a:Nat}(h:BR rows)(ho:v8 .u8 ei)(hl:ei.length=64)(ha:a≤64):
 ∃de,aN (.EC 64) (jD a:: .sl rows::ei)=some (.agg (jD (min rows.length (64 - a))::de))∧de.length=64∧v8 .u8 de:=by
 refine⟨_,show(if rows.all (fun r=>r.length==1&&r.all D.cell)=true∧a≤64∧ei.length=64 then some (D.agg (.int .i64 (min rows.length (64 - a):Nat)::(ei.take a++(rows.take (64 - a)).flatten++ei.drop (a+min rows.length (64 - a))))) else none)=_ by rw[if_pos ⟨h.all,ha,hl⟩],?_,?_⟩
 ·have hb:BR (rows.take (64 - a)):=fun r hr=>h r (List.mem_of_mem_take hr)
  rw[xa,xa,hb.flat.1,xz,xz,List.length_drop];omega
 ·have hb:BR (rows.take (64 - a)):=fun r hr=>h r (List.mem_of_mem_take hr)
  intro d hd;rw[xF,xF] at hd;rcases hd with(hd|hd)|hd
  ·exact ho d (List.mem_of_mem_take hd)
  ·exact hb.flat.2 d hd
  ·exact ho d (List.mem_of_mem_drop hd)
theorem BQ:∀(l:List D) (n:Nat),l.length=n→(∀d∈l,d.cell=true)→gV (List.replicate n no) l=true
 |[],n,h,_=>by subst h;rfl
 |d::l,n,h,hc=>by
  subst h;show(d.cell&&gV (List.replicate l.length no) l)=true;rw[hc d (by simp),BQ l l.length rfl (fun x hx=>hc x (by simp[hx]))];rfl
abbrev N5:List (Option xO):=[none]++(List.replicate 8 (some .u32)++(List.replicate 64 (some .u8)++([some .u64]++([none]++([none]++([none]++([some .i64]++(List.replicate 64 (some .u8)++[none]))))))))
abbrev L1:sA:=[(.ku .u64,[cd 77]),(.bin .add 0,[cd 73,cd 143])]
def DV(t:DT):List xM:=match t with| .jump _ _ _ _ us=>us.tail|_=>[]
def Ke(x:Option (List xO)):Bool:=match x with|some l=>decide (l=jx)|none=>false
theorem W0{x:Option (List xO)}(h:Ke x=true):x=some jx:=by
 unfold Ke at h;split at h
 ·rw[of_decide_eq_true h]
 ·cases h
def aR6:Bool:=match tH L1 (D6 N5) 143 with
 |some (K1,n)=>Nat.beq n 145&& (Ke (qb K1 (DV ES))&& (match tH (Hc (Ik BB)) K1 146 with|some (K2,_)=>Ke (qb K2 (DV Fc))|none=>false))
 |none=>false
theorem be3:aR6=true:=by kernel_rfl
theorem fW.P8{k:xO}:∀(n:Nat) (l:List D) {ks:List xO} {r:List D},l.length=n→v8 k l→fW ks r→fW (List.replicate n k++ks) (l++r)
 |0,l,ks,r,hl,_,h=>by rw[xA hl];exact h
 |n+1,[],ks,r,hl,_,h=>by simp at hl
 |n+1,d::l,ks,r,hl,ha,h=>⟨ha d (by simp),fW.P8 n l (by simpa using hl) (fun x hx=>ha x (by simp[hx])) h⟩
theorem HS.us{ws bs:List D}{fL:D}(h:HS ws bs fL):fW jx (ws++(bs++[fL])):=fW.P8 8 ws h.w h.aw (fW.P8 64 bs h.b h.ab ⟨h.t,trivial⟩)
theorem HS.cells{ws bs:List D}{fL:D}(h:HS ws bs fL):∀d∈ws++(bs++[fL]),d.cell=true:=fun d hd=>by
 rw[xF,xF,xy] at hd;rcases hd with hd|hd|rfl
 ·exact zJ (h.aw d hd)
 ·exact zJ (h.ab d hd)
 ·exact zJ h.t
theorem HS.len{ws bs:List D}{fL:D}(h:HS ws bs fL):(ws++(bs++[fL])).length=73:=by
 rw[xa,xa,h.w,h.b];rfl
theorem be4:∃K1 K2 n2,tH L1 (D6 N5) 143=some (K1,145)∧qb K1 (DV ES)=some jx∧tH (Hc (Ik BB)) K1 146=some (K2,n2)∧qb K2 (DV Fc)=some jx:=by
 have h:=be3;unfold aR6 at h;split at h
 ·rename_i K1 n h1;simp only [xf] at h;obtain⟨e1,e2,e3⟩:=h;have e1:=xb e1;subst e1;split at e3
  ·rename_i K2 n2 h2;exact⟨K1,K2,n2,h1,W0 e2,h2,W0 e3⟩
  ·cases e3
 ·cases h
section
variable{X:Nat→List D→Option (List D)}
theorem bw7:∀(n:Nat) (rows:List (List D)) (ws bs:List D) (fL:D),rows.length≤n→n≤1000000000000→BR rows→HS ws bs fL→Rn F X 117 1 (.sl rows::(ws++(bs++[fL]))) (fun o=>fW jx o):=by
 intro n;obtain⟨K1,K2,n2,Ih,hU1,Ig,hU2⟩:=be4
 induction n with
 |zero=>
  intro rows ws bs fL hn _ hb hs;obtain rfl:rows=[]:=xA (by omega);have hl:=hs.len;have hc:=hs.cells;have mb:=hs.us;generalize ws++(bs++[fL])=st at*;refine wR rfl (by show st.length+1=74;omega)<|Wp.op (ds:=[.sl []]) rfl bl rfl ?_;have Eu:((D.sl []::st)++[jD 0])[74]? =some (jD 0):=jN (by simp[hl]);refine Wp.uI (cG (d2 Eu rfl) rfl) rfl ?_;have hd:=zK (env:=(D.sl []::st)++[jD 0]) st 1 (fun i d hi=>⟨c7 (by rw[Nat.add_comm];simpa using hi),hc d (xu hi)⟩);rw[hl] at hd;exact Wp.ret hd mb
 |succ n ih=>
  intro rows ws bs fL hn iw hb hs;have hl:=hs.len;have hc:=hs.cells;have mb:=hs.us;obtain⟨hw,Ep,haw,If,T0,rfl,hT⟩:=hs;have Ev:(D.sl rows::(ws++(bs++[D.int .u64 (.ofNat T0)])))[73]? =some (D.int .u64 (.ofNat T0)):=by
   rw[List.getElem?_cons_succ,xq (by omega),xq (by omega),hw,Ep];rfl
  have gbs:∀(i:Nat) (d:D),bs[i]? =some d→(D.sl rows::(ws++(bs++[D.int .u64 (.ofNat T0)])))[9+i]? =some d∧d.cell=true:=fun i d hi=>by
   refine⟨?_,zJ (If d (xu hi))⟩;rw[show 9+i=8+i+1 by omega,List.getElem?_cons_succ,xq (by omega),hw,Nat.add_sub_cancel_left];exact c7 hi
  have jt:cY ([none]++(List.replicate 8 (some .u32)++(List.replicate 64 (some .u8)++[some .u64]))) (D.sl rows::(ws++(bs++[D.int .u64 (.ofNat T0)]))):=cY.app (x:=[D.sl rows]) cY.nI (cY.app (cY.oo hw haw) (cY.app (cY.oo Ep If) (cY.one ⟨T0,rfl,hT⟩)));have zv:(D.sl rows::(ws++(bs++[D.int .u64 (.ofNat T0)]))).length=74:=by show _+1=74;omega
  have aG8:=zK (env:=(D.sl rows::(ws++(bs++[D.int .u64 (.ofNat T0)])))++[jD rows.length]) (ws++(bs++[D.int .u64 (.ofNat T0)])) 1 (fun i d hi=>⟨c7 (by rw[Nat.add_comm];simpa using hi),hc d (xu hi)⟩);rw[hl] at aG8;refine wR rfl zv<|Wp.op (ds:=[.sl rows]) rfl bl rfl ?_;have g0:(D.sl rows::(ws++(bs++[D.int .u64 (.ofNat T0)])))[0]? =some (D.sl rows):=rfl;generalize dG2:(D.sl rows::(ws++(bs++[D.int .u64 (.ofNat T0)])))=E0 at*;have Eu:(E0++[jD rows.length])[74]? =some (jD rows.length):=jN zv;by_cases hr:rows.length=0
  ·exact Wp.cN (cG (d2 Eu rfl) rfl) (ch (a:=(rows.length:Int)) (b:=0)) (by omega)<|Wp.ret aG8 mb
  refine Wp.dB (cG (d2 Eu rfl) rfl) (ch (a:=(rows.length:Int)) (b:=0)) (by omega)<|Wp.op (cG (d2 (c7 Ev) rfl) rfl) (j4 (a:=T0) (b:=64) .u64 (by omega)) rfl ?_;have ha:T0%64<64:=Nat.mod_lt _ (by omega);generalize hga:T0%64=a at*;have NR:(E0++[jD rows.length]).length=75:=by simp[zv]
  have Vc:=jN (d:=D.int .u64 ((a:Nat):Int)) NR;have wE:aN (.ku .i64) [D.int .u64 ((a:Nat):Int)]=some (jD a):=by
   show some (D.int .i64 (IntKind.i64.wrap (a:Int)))=_;rw[IntWalk.i64_in _ (by omega)]
  refine Wp.op (cG (d2 Vc rfl) rfl) wE rfl ?_;have NP:(E0++[jD rows.length]++[D.int .u64 ((a:Nat):Int)]).length=76:=by simp[zv]
  have wF:=jN (d:=jD a) NP;have mS:aN .jF [D.int .i64 64,jD a]=some (.bool true):=by
   show some (D.bool (decide (a<64)))=_;rw[decide_eq_true ha]
  refine Wp.s7 (cG rfl (cG (d2 wF rfl) rfl)) mS ?_;obtain⟨de,hcp,jV,hnu⟩:=bR3 hb If Ep (Nat.le_of_lt ha);have MB:1≤min rows.length (64 - a)∧min rows.length (64 - a)≤rows.length∧min rows.length (64 - a)≤64:=by omega
  generalize hgc:min rows.length (64 - a)=iA at*;have jl:aW (bT (lk (E0++[jD rows.length]++[D.int .u64 ((a:Nat):Int)]++[jD a]))) (cd 76::cd 0::BF 9 64)=some (jD a:: .sl rows::bs):=by
   have h9:=Yc (env:=E0++[jD rows.length]++[D.int .u64 ((a:Nat):Int)]++[jD a]) bs 9 (fun i d hi=>⟨c7 (c7 (c7 (gbs i d hi).1)),(gbs i d hi).2⟩);rw[Ep] at h9;exact cG (d2 wF rfl) (cG (d2 (c7 (c7 (c7 g0))) rfl) h9)
  refine Wp.aC jl hcp (BQ _ 65 (by simp[jV]) (fun d hd=>by
   rcases xG.1 hd with rfl|hd
   ·rfl
   ·exact zJ (hnu d hd))) ?_
  have zu:(E0++[jD rows.length]++[D.int .u64 ((a:Nat):Int)]++[jD a]).length=77:=by simp[zv]
  have H6:cY ([none]++(List.replicate 8 (some .u32)++(List.replicate 64 (some .u8)++[some .u64]))++[none]++[none]++[none]) (E0++[jD rows.length]++[D.int .u64 ((a:Nat):Int)]++[jD a]):=((jt.app cY.nI).app cY.nI).app cY.nI;have dH1:=c7 (r:=[jD a]) (c7 (r:=[D.int .u64 ((a:Nat):Int)]) (c7 (r:=[jD rows.length]) Ev));have g0':=c7 (r:=[jD a]) (c7 (r:=[D.int .u64 ((a:Nat):Int)]) (c7 (r:=[jD rows.length]) g0));generalize dG1:E0++[jD rows.length]++[D.int .u64 ((a:Nat):Int)]++[jD a]=E3 at*;have BC:(E3++(jD iA::de))[77]? =some (jD iA):=by
   rw[xq (by omega),zu];rfl
  have fX:aN (.gw 1) [.sl rows,jD iA]=some (.sl (rows.drop iA)):=Jh (by omega) (fun row h=>by obtain⟨d,rfl,_⟩:=hb row h;rfl);refine Wp.op (cG (d2 (c7 g0') rfl) (cG (d2 BC rfl) rfl)) fX rfl ?_;have Bu:(E3++(jD iA::de)).length=142:=by simp[zu,jV]
  have Bt:(E3++(jD iA::de)++[D.sl (rows.drop iA)]).length=143:=by simp[zu,jV]
  have hk5:cY N5 (E3++(jD iA::de)++[D.sl (rows.drop iA)]):=(H6.app (cY.app (x:=[jD iA]) (cY.one ⟨iA,rfl,by show iA<18446744073709551616;omega⟩) (cY.oo jV hnu))).app cY.nI;have dl2:=jN (d:=D.sl (rows.drop iA)) Bu;have dk9:=c7 (r:=[D.sl (rows.drop iA)]) (c7 (r:=jD iA::de) wF);have dk8:=c7 (r:=[D.sl (rows.drop iA)]) BC;generalize dG0:E3++(jD iA::de)++[D.sl (rows.drop iA)]=E5 at*;show Wp F X 117 (Ft L1 (.op (.bin .add 0) [cd 76,cd 77] (.br (.bin .eql 0) [cd 145,.int .i64 64] (Ft (Hc (Ik BB)) Fc) ES))) E5 _;refine qa L1 (D6 N5) K1 143 145 E5 Bt (P9 hk5) Ih (fun new q1 q2=> ?_);refine Wp.op (cG (d2 (c7 dk9) rfl) (cG (d2 (c7 dk8) rfl) rfl)) (gE (a:=a) (b:=iA) (by omega)) rfl ?_;have dl1:=jN (d:=jD (a+iA)) q1;have aj6:=c7 (r:=[jD (a+iA)]) (c7 (r:=new) dl2);have fin:∀(K:T (Option xO)) (us:List xM) (env:List D),(∀c k,T.get none K c=some k→∃d,env[c]? =some d∧kP k d)→qb K us=some jx→env[142]? =some (D.sl (rows.drop iA))→∃ds,aW (bQ (lk env)) (cd 142::us)=some ds∧Rn F X 117 1 ds (fun o=>fW jx o):=fun K us env h1 h2 h3=>by
   obtain⟨ds,e1,e2⟩:=zF h1 us jx h2;obtain⟨ws',eT,cQ1,rfl,e3⟩:=HS.of e2;exact⟨_,cG (d1 h3 rfl) e1,ih (rows.drop iA) ws' eT cQ1 (by rw[List.length_drop];omega) (by omega) (hb.drop iA) e3⟩
  have ui:∀c k,T.get none K1 c=some k→∃d,(E5++new++[jD (a+iA)])[c]? =some d∧kP k d:=fun c k nR=>(q2 c k nR).imp fun d ⟨h1,h2⟩=>⟨c7 h1,h2⟩
  refine Wp.aQ (cG (d2 dl1 rfl) rfl) (au (a:=((a+iA:Nat):Int)) (b:=64)) (fun _=> ?_) (fun _=> ?_)
  ·refine qa (Hc (Ik BB)) K1 K2 146 n2 _ (by rw[xa,q1];rfl) ui Ig (fun Ma r1 r2=> ?_);obtain⟨ds,e1,e2⟩:=fin K2 (DV Fc) _ r2 hU2 (c7 aj6);exact Wp.jump e1 e2
  ·obtain⟨ds,e1,e2⟩:=fin K1 (DV ES) _ ui hU1 aj6;exact Wp.jump e1 e2
end
def Dl:Nat→DT→sA|0,_=>[]|n+1,.op k a t=>(k,a)::Dl n t|_,_=>[]
def qB:Nat→DT→DT|0,t=>t|n+1,.op _ _ t=>qB n t|_,t=>t
theorem EJ:∀(n:Nat) (t:DT),Ft (Dl n t) (qB n t)=t
 |0,t=>rfl
 |n+1,.op k a t=>congrArg (DT.op k a) (EJ n t)
 |n+1,.aC .. =>rfl
 |n+1,.br .. =>rfl
 |n+1,.sw .. =>rfl
 |n+1,.note .. =>rfl
 |n+1,.call .. =>rfl
 |n+1,.jump .. =>rfl
 |n+1,.ret .. =>rfl
 |n+1,.stop=>rfl
theorem Xs{K:T (Option xO)}{env o:List D}{l:List (Option xO)}{n:Nat}(hn:env.length=n)(he:∀c k,T.get none K c=some k→∃d,env[c]? =some d∧kP k d)(hk:cY l o):∀(c:Nat) (k:xO),T.get none (kB l n K) c=some k→∃d,(env++o)[c]? =some d∧kP k d:=fun c k hc=>by
 rcases OS c k l n K hc with⟨j,h1,h2⟩|h1
 ·obtain⟨d,h3,h4⟩:=hk.2 j k h1;refine⟨d,?_,h4⟩;rw[h2,←hn,xq (by omega),Nat.add_sub_cancel_left];exact h3
 ·obtain⟨d,h3,h4⟩:=he c k h1;exact⟨d,c7 h3,h4⟩
theorem cY.us:∀{ks:List xO} {l:List D},fW ks l→cY (ks.map some) l
 |[],[],_=>⟨rfl,fun i k h=>by simp at h⟩
 |[],_::_,h=>h.elim
 |_::_,[],h=>h.elim
 |k::ks,d::l,h=>cY.app (a:=[some k]) (x:=[d]) (cY.one h.1) (cY.us h.2)
theorem LC{δ:Nat→Option D}:∀{l:List xM} {ds:List D},aW (bQ δ) l=some ds→aW (bT δ) l=some ds
 |[],ds,h=>h
 |v::l,ds,h=>by
  obtain⟨d,r,rfl,h1,h2⟩:=kw h;exact cG (zX h1) (LC h2)
theorem B4{g:xM→Option D}:∀{a b:List xM} {x y:List D},aW g a=some x→aW g b=some y→aW g (a++b)=some (x++y)
 |[],b,x,y,h,h2=>by cases h;exact h2
 |v::a,b,x,y,h,h2=>by
  obtain⟨d,r,rfl,h1,h3⟩:=kw h;exact cG h1 (B4 h3 h2)
theorem QK:∀(n:Nat) (ds:List D),ds.length=n→tA 1 n ds=some (ds.map fun d=>[d])
 |0,[],_=>rfl
 |0,_::_,h=>by simp at h
 |n+1,[],h=>by simp at h
 |n+1,d::ds,h=>by
  have:=QK n ds (by simpa using h);show(if 1≤(d::ds).length then(tA 1 n ds).map fun r=>[d]::r else none)=_;rw[if_pos (by simp),this];rfl
theorem BR.map{ds:List D}(h:v8 .u8 ds):BR (ds.map fun d=>[d]):=fun row hr=>by
 obtain⟨d,hd,rfl⟩:=xJ.1 hr;exact⟨d,rfl,h d hd⟩
theorem BR.app{a b:List (List D)}(h:BR a)(g:BR b):BR (a++b):=fun row hr=>by
 rcases xF.1 hr with hr|hr
 ·exact h row hr
 ·exact g row hr
theorem BR.oo{m:Nat}:BR (List.replicate m [D.int .u8 0]):=fun row hr=>by
 rw[(List.mem_replicate.1 hr).2];exact⟨_,rfl,0,rfl,by decide⟩
theorem BR.set{a:List (List D)}(h:BR a)(i:Nat):BR (a.set i [D.int .u8 128]):=fun row hr=>by
 rcases List.mem_or_eq_of_mem_set hr with hr|rfl
 ·exact h row hr
 ·exact⟨_,rfl,128,rfl,by decide⟩
theorem XI{a b:List (List D)}(hb:BR b)(h:a.length+b.length≤1000):aN (.app 1 1) [.sl a,.sl b]=some (.sl (a++b)):=by
 show(if b.all (fun r=>r.length==1&&r.all D.cell) then some b else none).bind (fun q=>if lj (a.length+q.length) 1 then some (D.sl (a++q)) else none)=_;rw[if_pos hb.all];show(if lj (a.length+b.length) 1 then _ else _)=_;rw[if_pos (by unfold lj;simp;omega)]
def Bc(x:Option (List xO))(l:List xO):Bool:=match x with|some r=>decide (r=l)|none=>false
theorem Fu{x:Option (List xO)}{l:List xO}(h:Bc x l=true):x=some l:=by
 unfold Bc at h;split at h
 ·rw[of_decide_eq_true h]
 ·cases h
section
variable{X:Nat→List D→Option (List D)}
theorem PV{rows:List (List D)}{ws bs:List D}{fL:D}(hr:rows.length≤1000000000000)(hb:BR rows)(hs:HS ws bs fL):Rn F X 117 0 ((ws++(bs++[fL]))++[.sl rows]) (fun o=>fW jx o):=by
 have h1:=bw7 (X:=X) _ rows ws bs fL (xk _) hr hb hs;have hl:=hs.len;have hc:=hs.cells;generalize ws++(bs++[fL])=st at*;refine wR rfl (by simp[hl]) ?_;have hd:=zK (env:=st++[.sl rows]) st 0 (fun i d hi=>⟨c7 (by rw[Nat.zero_add];exact hi),hc d (xu hi)⟩);rw[hl] at hd;exact Wp.jump (cG (d1 (jN hl) rfl) hd) h1
def a8(t:DT):List xM:=match t with| .note _ (.op _ a _)=>a|_=>[]
def ap3(t:DT):List xM:=match t with| .ret _ _ us=>us|_=>[]
def MZ:DT:= .op (.bin .shl 0) [cd 73,.int .u64 3] Xv
def aR7:Bool:=match tH (Dl 17 MZ) (D6 ([none]++(jx.map some++List.replicate 7 none))) 81 with
 |some (K1,n)=>Nat.beq n 98&& (Bc (qb K1 (a8 (qB 17 MZ))) (List.replicate 8 .u8)&& (match tH (Dl 56 Jd) (kB (jx.map some) 100 K1) 173 with
  |some (K2,_)=>Bc (qb K2 (ap3 (qB 56 Jd))) (List.replicate 32 .u8)
  |none=>false))
 |none=>false
theorem be5:aR7=true:=by kernel_rfl
theorem bV4{env:List D}{st:List D}{q:List (List D)}(bc:fW jx st)(hE:env.length=81)(hk:cY ([none]++(jx.map some++List.replicate 7 none)) env)(hs:∀i d,st[i]? =some d→env[1+i]? =some d)(hq:env[80]? =some (.sl q))(hb:BR q)(hql:q.length≤100):Wp F X 114 MZ env (fun o=>fW (List.replicate 32 .u8) o):=by
 have h:=be5;unfold aR7 at h;split at h;rotate_left
 ·cases h
 rename_i K1 n Ih;simp only [xf] at h;obtain⟨e1,e2,e3⟩:=h;have e1:=xb e1;subst e1;have e2:=Fu e2;split at e3;rotate_left
 ·cases e3
 rename_i K2 n2 Ig;have e3:=Fu e3;obtain⟨ws,bs,fL,rfl,hh⟩:=HS.of bc;rw[←EJ 17 MZ];refine qa _ _ K1 81 98 env hE (P9 hk) Ih (fun new q1 q2=> ?_);refine wg 1 rfl ?_;obtain⟨ds,f1,f2⟩:=zF q2 _ _ e2;obtain⟨f3,f4⟩:=f2.oo (n:=8);refine Wp.op (LC f1) (d:= .sl (ds.map fun d=>[d])) (show(if ds.length=8*1 then(tA 1 8 ds).map D.sl else none)=_ by rw[if_pos f3,QK 8 ds f3];rfl) rfl<|Wp.op (cG (d2 (c7 (c7 hq)) rfl) (cG (d2 (jN q1) rfl) rfl)) (XI (BR.map f4) (by rw[xm,f3];omega)) rfl<|wg 1 rfl ?_;have HK:(env++new++[D.sl (ds.map fun d=>[d])]++[D.sl (q++ds.map fun d=>[d])]).length=100:=by rw[xa,xa,q1];rfl
 have Ie:=zK (env:=env++new++[D.sl (ds.map fun d=>[d])]++[D.sl (q++ds.map fun d=>[d])]) (ws++(bs++[fL])) 1 (fun i d hi=>⟨c7 (c7 (c7 (hs i d hi))),hh.cells d (xu hi)⟩);rw[hh.len] at Ie;have yF:=jN (l:=env++new++[D.sl (ds.map fun d=>[d])]) (n:=99) (d:=D.sl (q++ds.map fun d=>[d])) (by rw[xa,q1];rfl);have ui:∀c k,T.get none K1 c=some k→∃d,(env++new++[D.sl (ds.map fun d=>[d])]++[D.sl (q++ds.map fun d=>[d])])[c]? =some d∧kP k d:=fun c k nR=>(q2 c k nR).imp fun d ⟨h1,h2⟩=>⟨c7 (c7 h1),h2⟩
 refine Wp.call (ds:=(ws++(bs++[fL]))++[.sl (q++ds.map fun d=>[d])]) (B4 Ie (cG (d1 yF rfl) rfl)) (PV (by rw[xa,xm,f3];omega) (hb.app (BR.map f4)) hh) (fun o ho=> .inl ⟨?_,?_⟩)
 ·obtain⟨w2,b2,t2,rfl,h2⟩:=HS.of ho;exact BQ _ 73 h2.len h2.cells
 rw[←EJ 56 Jd];have o8:o.length=73:=by obtain⟨w2,b2,t2,rfl,h2⟩:=HS.of ho;exact h2.len
 refine qa _ _ K2 173 n2 _ (by rw[xa,HK,o8]) (Xs HK ui (cY.us ho)) Ig (fun Ma r1 r2=> ?_);obtain⟨ds2,g1,g2⟩:=zF r2 _ _ e3;exact Wp.ret g1 g2
def M0:DT:= .op (.bin .shl 0) [cd 73,.int .u64 3] Xu
def aR8:Bool:=match tH (Dl 17 M0) (D6 ([none]++(jx.map some++List.replicate 6 none))) 80 with
 |some (K1,n)=>Nat.beq n 97&& (Bc (qb K1 (a8 (qB 17 M0))) (List.replicate 8 .u8)&& (match tH (Dl 56 Jc) (kB (jx.map some) 99 K1) 172 with
  |some (K2,_)=>Bc (qb K2 (ap3 (qB 56 Jc))) (List.replicate 32 .u8)
  |none=>false))
 |none=>false
theorem be6:aR8=true:=by kernel_rfl
theorem bV5{env:List D}{st:List D}{q:List (List D)}(bc:fW jx st)(hE:env.length=80)(hk:cY ([none]++(jx.map some++List.replicate 6 none)) env)(hs:∀i d,st[i]? =some d→env[1+i]? =some d)(hq:env[79]? =some (.sl q))(hb:BR q)(hql:q.length≤100):Wp F X 114 M0 env (fun o=>fW (List.replicate 32 .u8) o):=by
 have h:=be6;unfold aR8 at h;split at h;rotate_left
 ·cases h
 rename_i K1 n Ih;simp only [xf] at h;obtain⟨e1,e2,e3⟩:=h;have e1:=xb e1;subst e1;have e2:=Fu e2;split at e3;rotate_left
 ·cases e3
 rename_i K2 n2 Ig;have e3:=Fu e3;obtain⟨ws,bs,fL,rfl,hh⟩:=HS.of bc;rw[←EJ 17 M0];refine qa _ _ K1 80 97 env hE (P9 hk) Ih (fun new q1 q2=> ?_);refine wg 1 rfl ?_;obtain⟨ds,f1,f2⟩:=zF q2 _ _ e2;obtain⟨f3,f4⟩:=f2.oo (n:=8);refine Wp.op (LC f1) (d:= .sl (ds.map fun d=>[d])) (show(if ds.length=8*1 then(tA 1 8 ds).map D.sl else none)=_ by rw[if_pos f3,QK 8 ds f3];rfl) rfl<|Wp.op (cG (d2 (c7 (c7 hq)) rfl) (cG (d2 (jN q1) rfl) rfl)) (XI (BR.map f4) (by rw[xm,f3];omega)) rfl<|wg 1 rfl ?_;have HK:(env++new++[D.sl (ds.map fun d=>[d])]++[D.sl (q++ds.map fun d=>[d])]).length=99:=by rw[xa,xa,q1];rfl
 have Ie:=zK (env:=env++new++[D.sl (ds.map fun d=>[d])]++[D.sl (q++ds.map fun d=>[d])]) (ws++(bs++[fL])) 1 (fun i d hi=>⟨c7 (c7 (c7 (hs i d hi))),hh.cells d (xu hi)⟩);rw[hh.len] at Ie;have yF:=jN (l:=env++new++[D.sl (ds.map fun d=>[d])]) (n:=98) (d:=D.sl (q++ds.map fun d=>[d])) (by rw[xa,q1];rfl);have ui:∀c k,T.get none K1 c=some k→∃d,(env++new++[D.sl (ds.map fun d=>[d])]++[D.sl (q++ds.map fun d=>[d])])[c]? =some d∧kP k d:=fun c k nR=>(q2 c k nR).imp fun d ⟨h1,h2⟩=>⟨c7 (c7 h1),h2⟩
 refine Wp.call (ds:=(ws++(bs++[fL]))++[.sl (q++ds.map fun d=>[d])]) (B4 Ie (cG (d1 yF rfl) rfl)) (PV (by rw[xa,xm,f3];omega) (hb.app (BR.map f4)) hh) (fun o ho=> .inl ⟨?_,?_⟩)
 ·obtain⟨w2,b2,t2,rfl,h2⟩:=HS.of ho;exact BQ _ 73 h2.len h2.cells
 rw[←EJ 56 Jc];have o8:o.length=73:=by obtain⟨w2,b2,t2,rfl,h2⟩:=HS.of ho;exact h2.len
 refine qa _ _ K2 172 n2 _ (by rw[xa,HK,o8]) (Xs HK ui (cY.us ho)) Ig (fun Ma r1 r2=> ?_);obtain⟨ds2,g1,g2⟩:=zF r2 _ _ e3;exact Wp.ret g1 g2
def usC(t:DT):List xM:=match t with| .note _ (.call _ _ us _ _ _)=>us.take 73|_=>[]
theorem bE0:Bc (qb (T.full none 12) (usC Qr)) jx=true:=by kernel_rfl
theorem YG{n c:Nat}(h:n≤c)(hc:c≤1000):aN (.j6 1 1) [jD n,jD c,.int .u8 0]=some (.sl (List.replicate n [.int .u8 0])):=by
 show(if _ then _ else none)=_;rw[if_pos ⟨rfl,h,by simp[lj];omega⟩]
theorem bA7{rows:List (List D)}(hr:rows.length≤1000000000000)(hb:BR rows):Rn F X 114 0 [.sl rows] (fun o=>fW (List.replicate 32 .u8) o):=by
 refine wr rfl<|wg 1 rfl ?_;obtain⟨ds,f1,f2⟩:=zF (env:=[D.sl rows]) (K:=T.full none 12) (fun c k h=>by rcases T.BK (none:Option xO) none 12 c with e|e<;>(rw[e] at h;cases h)) (usC Qr) jx (Fu bE0);obtain⟨ws,bs,fL,rfl,hh⟩:=HS.of f2;refine Wp.call (ds:=(ws++(bs++[fL]))++[.sl rows]) (B4 f1 (cG (d1 (env:=[D.sl rows]) (i:=0) rfl rfl) rfl)) (PV hr hb hh) (fun o ho=> .inl ⟨?_,?_⟩)
 ·obtain⟨w2,b2,t2,rfl,h2⟩:=HS.of ho;exact BQ _ 73 h2.len h2.cells
 clear f1 f2 hh;have hko:=cY.us ho;have o8:o.length=73:=by obtain⟨w2,b2,t2,rfl,h2⟩:=HS.of ho;exact h2.len
 have Ev:∃T0:Nat,([D.sl rows]++o)[73]? =some (D.int .u64 (.ofNat T0)):=by
  obtain⟨d,h1,T0,rfl,h3⟩:=hko.2 72 .u64 rfl;exact⟨T0,by rw[xq (by simp)];exact h1⟩
 obtain⟨T0,Ev⟩:=Ev;have zv:([D.sl rows]++o).length=74:=by rw[xa,o8];rfl
 have jt:cY ([none]++jx.map some) ([D.sl rows]++o):=cY.app cY.nI hko;have Ee:∀i d,o[i]? =some d→([D.sl rows]++o)[1+i]? =some d:=fun i d hi=>by
  rw[xq (by simp),show 1+i - [D.sl rows].length=i by simp];exact hi
 generalize [D.sl rows]++o=E0 at*;have ha:T0%64<64:=Nat.mod_lt _ (by omega);refine Wp.op (cG (d2 Ev rfl) rfl) (j4 (a:=T0) (b:=64) .u64 (by omega)) rfl ?_;generalize T0%64=a at*;have Eu:=jN (d:=D.int .u64 ((a:Nat):Int)) zv;have wE:aN (.ku .i64) [D.int .u64 ((a:Nat):Int)]=some (jD a):=by
  show some (D.int .i64 (IntKind.i64.wrap (a:Int)))=_;rw[IntWalk.i64_in _ (by omega)]
 refine Wp.op (cG (d2 Eu rfl) rfl) wE rfl ?_;have NR:(E0++[D.int .u64 ((a:Nat):Int)]).length=75:=by rw[xa,zv];rfl
 have Vc:=jN (d:=jD a) NR;refine Wp.op (cG rfl (cG (d2 Vc rfl) rfl)) (rK (a:=56) (b:=(a:Int)) (by omega) (by omega)) rfl ?_;have NP:(E0++[D.int .u64 ((a:Nat):Int)]++[jD a]).length=76:=by rw[xa,NR];rfl
 have wF:=jN (d:=D.int .i64 (56 - (a:Int))) NP;have zu:(E0++[D.int .u64 ((a:Nat):Int)]++[jD a]++[D.int .i64 (56 - (a:Int))]).length=77:=by rw[xa,NP];rfl
 have H6:cY (([none]++jx.map some)++[none]++[none]++[none]) (E0++[D.int .u64 ((a:Nat):Int)]++[jD a]++[D.int .i64 (56 - (a:Int))]):=((jt.app cY.nI).app cY.nI).app cY.nI;have ov:∀i d,o[i]? =some d→(E0++[D.int .u64 ((a:Nat):Int)]++[jD a]++[D.int .i64 (56 - (a:Int))])[1+i]? =some d:=fun i d hi=>c7 (c7 (c7 (Ee i d hi)))
 generalize E0++[D.int .u64 ((a:Nat):Int)]++[jD a]++[D.int .i64 (56 - (a:Int))]=E3 at*;refine Wp.aQ (cG (d2 wF rfl) rfl) (Fm (a:=56 - (a:Int)) (b:=0)) (fun aR=> ?_) (fun aR=> ?_)
 ·have e1:(56 - (a:Int))+64=((120 - a:Nat):Int):=by omega
  refine Wp.op (cG (d2 wF rfl) rfl) (d:=jD (120 - a)) (by rw[XJ (by omega) (by omega),e1]) rfl ?_;have BC:=jN (d:=jD (120 - a)) zu;refine Wp.op (cG (d2 BC rfl) rfl) (gE (a:=120 - a) (b:=8) (by omega)) rfl ?_;have Bu:(E3++[jD (120 - a)]).length=78:=by rw[xa,zu];rfl
  have NV:=jN (d:=jD (120 - a+8)) Bu;refine Wp.op (cG (d2 (c7 BC) rfl) (cG (d2 NV rfl) rfl)) (YG (n:=120 - a) (c:=120 - a+8) (by omega) (by omega)) rfl ?_;have Bt:(E3++[jD (120 - a)]++[jD (120 - a+8)]).length=79:=by rw[xa,Bu];rfl
  have g79:=jN (d:=D.sl (List.replicate (120 - a) [D.int .u8 0])) Bt;refine Wp.s7 (cG (d2 g79 rfl) rfl) (show some (D.bool (decide (0<(List.replicate (120 - a) [D.int .u8 0]).length)))=_ by rw[List.length_replicate,decide_eq_true (by omega)]) ?_;have bc:aN (.fO 0) [D.sl (List.replicate (120 - a) [D.int .u8 0]),.int .i64 0,.int .u8 128]=some (.sl ((List.replicate (120 - a) [D.int .u8 0]).set 0 [D.int .u8 128])):=by
   obtain⟨m,hm⟩:∃m,120 - a=m+1:=⟨119 - a,by omega⟩;rw[hm];rfl
  refine Wp.op (cG (d2 g79 rfl) rfl) bc rfl ?_;have hE6:(E3++[jD (120 - a)]++[jD (120 - a+8)]++[D.sl (List.replicate (120 - a) [D.int .u8 0])]).length=80:=by rw[xa,Bt];rfl
  exact bV4 ho (by rw[xa,hE6];rfl) ((((H6.app cY.nI).app cY.nI).app cY.nI).app cY.nI) (fun i d hi=>c7 (c7 (c7 (c7 (ov i d hi))))) (jN hE6) (BR.set BR.oo 0) (by rw[xt,List.length_replicate];omega)
 ·have e1:56 - (a:Int)=((56 - a:Nat):Int):=by omega
  rw[e1] at wF aR;refine Wp.op (cG (d2 wF rfl) rfl) (gE (a:=56 - a) (b:=8) (by omega)) rfl ?_;have BC:=jN (d:=jD (56 - a+8)) zu;refine Wp.op (cG (d2 (c7 wF) rfl) (cG (d2 BC rfl) rfl)) (YG (n:=56 - a) (c:=56 - a+8) (by omega) (by omega)) rfl ?_;have Bu:(E3++[jD (56 - a+8)]).length=78:=by rw[xa,zu];rfl
  have NV:=jN (d:=D.sl (List.replicate (56 - a) [D.int .u8 0])) Bu;refine Wp.s7 (cG (d2 NV rfl) rfl) (show some (D.bool (decide (0<(List.replicate (56 - a) [D.int .u8 0]).length)))=_ by rw[List.length_replicate,decide_eq_true (by omega)]) ?_;have bc:aN (.fO 0) [D.sl (List.replicate (56 - a) [D.int .u8 0]),.int .i64 0,.int .u8 128]=some (.sl ((List.replicate (56 - a) [D.int .u8 0]).set 0 [D.int .u8 128])):=by
   obtain⟨m,hm⟩:∃m,56 - a=m+1:=⟨55 - a,by omega⟩;rw[hm];rfl
  refine Wp.op (cG (d2 NV rfl) rfl) bc rfl ?_;have Bt:(E3++[jD (56 - a+8)]++[D.sl (List.replicate (56 - a) [D.int .u8 0])]).length=79:=by rw[xa,Bu];rfl
  exact bV5 ho (by rw[xa,Bt];rfl) (((H6.app cY.nI).app cY.nI).app cY.nI) (fun i d hi=>c7 (c7 (c7 (ov i d hi)))) (jN Bt) (BR.set BR.oo 0) (by rw[xt,List.length_replicate];omega)
end
open Go.Ex Go.RowKit Go.Fl
section
variable{X:Nat→List D→Option (List D)}
theorem bi3(hX:lO X)(hP:wJ X)(hI:wK X)(h7:CH X){f:dK}(hf:tf f):Rn F X 106 0 f.s (BI 500000000):=by
 have c0:=O8 hX hf;have L1:LN X 1:=Nk (by omega);have L0:LN X 0:=Nk (by omega);have NC:=qd hf.name;have h2:=hf.flags.1;have h9:=hf.links.1;have h3:=hf.comps.2.1;have GX:∀(ae pre:List Cm),f.comps=pre++ae→∀t':List UInt8,1≤t'.length→t'.length≤200000+3000000*pre.length→Rn F X 106 3 [.sl (f.comps.map Cm.s),jD f.comps.length,jD pre.length,.sl (bO t'),jD 1] (BI 500000000):=by
  intro ae
  induction ae with
  |nil=>
   intro pre aH t' q1 q2;rw[xj] at aH;have hp':pre.length=f.comps.length:=by rw[aH]
   refine wr rfl<|wn rfl af<|wo rfl (zS (a:=1) (b:=1) (by omega) (by omega))<|wg 2 rfl<|wx rfl (L0 [[125]] (by simp) (by simp only [cM,xi,xd];omega) t' (by omega)) fun|_,⟨t3,rfl,Va,U'⟩=>⟨rfl,?_⟩
   exact wo rfl (az (rD _))<|mK<|wy rfl (fm (k:=0) (rD _))<|wo rfl (WT (by omega))<|wt rfl ⟨t3,rfl,by omega⟩
  |cons a ae cZ=>
   intro pre aH t' q1 q2;have aF:=bj aH;have aq:=bR (f:=Cm.s) aH;have next:=cZ (pre++[a]) (by rw[aH,aV]);rw[xa] at next;have e1:pre.length+[a].length=pre.length+1:=rfl;rw[e1] at next;have cc:=bf8 (X:=X) hP hI h7 (hf.comps.2.2 a (by rw[aH];simp)) (t:=t') (by omega);obtain⟨a1,a2,a3⟩:=a;refine wr rfl<|wy rfl af<|wo rfl (aA aq rfl)<|wg 1 rfl<|w9<|wg 1 rfl<|wx rfl cc fun|_,⟨t2,rfl,Et,By⟩=>⟨rfl,?_⟩
   refine wo rfl oA<|Wp.jump rfl ?_;have hb:t2.length≤200000+3000000*(pre.length+1):=by rw[Nat.mul_add,Nat.mul_one,←Nat.add_assoc];exact xH By (Nat.add_le_add_right q2 _)
   exact next t2 (by omega) hb
 have Aa:∀(ae pre:List Lk),f.links=pre++ae→∀t':List UInt8,1≤t'.length→t'.length≤20000+6200*pre.length→Rn F X 106 2 [.sl (f.links.map Lk.d),jD f.links.length,jD pre.length,.str f.name,.sl (f.flags.map Fg.d),.sl (f.comps.map Cm.s),.sl (bO t'),jD 1] (BI 500000000):=by
  intro ae
  induction ae with
  |nil=>
   intro pre aH t' q1 q2;rw[xj] at aH;have hp':pre.length=f.links.length:=by rw[aH]
   exact wr rfl<|wn rfl af<|wo rfl (az (xm _))<|Wp.jump rfl (GX f.comps [] rfl t' q1 (by simp;omega))
  |cons a ae cZ=>
   intro pre aH t' q1 q2;have aF:=bj aH;have aq:=bR (f:=Lk.d) aH;have next:=cZ (pre++[a]) (by rw[aH,aV]);rw[xa] at next;have e1:pre.length+[a].length=pre.length+1:=rfl;rw[e1] at next;have ha:=hf.links.2 a (by rw[aH];simp);have g1:=qd ha.src;have g2:=qd ha.dst;obtain⟨s9,zf,ci⟩:=hI.Mo a.zd (by have:=ha.zd;omega);obtain⟨a1,a2,a3⟩:=a;simp only at g1 g2 ci;refine wr rfl<|wy rfl af<|wo rfl (aA aq rfl)<|wg 1 rfl<|kF<|wl rfl ci rfl<|wg 2 rfl<|wx rfl (L1 [[108,105,110,107,32],a1,[32,45,62,32],a2,[32,108,97,116,101,110,99,121,32],s9,[59]] (by simp) (by simp only [cM,xi,xd];omega) t' (by omega)) fun|_,⟨t2,rfl,Et,By⟩=>⟨rfl,?_⟩
   exact wo rfl oA<|fK<|Wp.jump rfl (next t2 (by omega) (by omega))
 have Aw:∀(ae pre:List Fg),f.flags=pre++ae→∀t':List UInt8,1≤t'.length→t'.length≤1000+6200*pre.length→Rn F X 106 1 [.sl (f.flags.map Fg.d),jD f.flags.length,jD pre.length,.str f.name,.sl (f.links.map Lk.d),.sl (f.comps.map Cm.s),.sl (bO t'),jD 1] (BI 500000000):=by
  intro ae
  induction ae with
  |nil=>
   intro pre aH t' q1 q2;rw[xj] at aH;have hp':pre.length=f.flags.length:=by rw[aH]
   exact wr rfl<|wn rfl af<|wo rfl (az (xm _))<|Wp.jump rfl (Aa f.links [] rfl t' q1 (by simp;omega))
  |cons a ae cZ=>
   intro pre aH t' q1 q2;have aF:=bj aH;have aq:=bR (f:=Fg.d) aH;have next:=cZ (pre++[a]) (by rw[aH,aV]);rw[xa] at next;have e1:pre.length+[a].length=pre.length+1:=rfl;rw[e1] at next;have g1:=qd (hf.flags.2 a (by rw[aH];simp));obtain⟨a1,a2⟩:=a;simp only at g1;cases a2
   ·refine wr rfl<|wy rfl af<|wo rfl (aA aq rfl)<|wg 2 rfl<|cW<|wl rfl aR3 rfl<|wg 2 rfl<|wx rfl (L1 [[102,108,97,103,32],a1,[32,61,32],[102,97,108,115,101],[59]] (by simp) (by simp only [cM,xi,xd];omega) t' (by omega)) fun|_,⟨t2,rfl,Et,By⟩=>⟨rfl,?_⟩
    exact wo rfl oA<|lG<|Wp.jump rfl (next t2 (by omega) (by omega))
   ·refine wr rfl<|wy rfl af<|wo rfl (aA aq rfl)<|wg 1 rfl<|cW<|wl rfl dl4 rfl<|wg 2 rfl<|wx rfl (L1 [[102,108,97,103,32],a1,[32,61,32],[116,114,117,101],[59]] (by simp) (by simp only [cM,xi,xd];omega) t' (by omega)) fun|_,⟨t2,rfl,Et,By⟩=>⟨rfl,?_⟩
    exact wo rfl oA<|lG<|Wp.jump rfl (next t2 (by omega) (by omega))
 have g:=Aw f.flags [] rfl;have a0:aN (.app 1 1) [.sl [],.str [102,108,101,101,116,32]]=some (.sl (bO [102,108,101,101,116,32])):=uT (t:=[]) (by simp);have c0:Rn F X 41 0 [.str f.name,.sl (f.flags.map Fg.d),.sl (f.links.map Lk.d),.sl (f.comps.map Cm.s)] (·=[iD 0]):=c0;show Rn F X 106 0 [.str f.name,.sl (f.flags.map Fg.d),.sl (f.links.map Lk.d),.sl (f.comps.map Cm.s)] _;exact wr rfl<|wl rfl c0 rfl<|wg 2 rfl<|wo rfl a0<|wg 1 rfl<|wo rfl (uT (by simp only [xa,xi,xd];omega))<|wg 1 rfl<|w8<|wg 1 rfl<|wo rfl (uT (by simp only [xa,xi,xd];omega))<|wg 2 rfl<|wo rfl (XH (by simp only [xa,xi,xd];omega))<|wo rfl (az (bW _ _))<|kF<|Wp.jump rfl (g _ (by simp only [xa,xi,xd];omega) (by simp only [xa,xi,xd];omega))
def sB(l:List D):Prop:=fW (List.replicate 32 .u8) l
theorem sB.len{l:List D}(h:sB l):l.length=32:=h.oo.1
theorem sB.cells{l:List D}(h:sB l):∀d∈l,d.cell=true:=fun d hd=>zJ (h.oo.2 d hd)
theorem bf0(s:List UInt8):BR (bO s):=fun row hr=>by
 obtain⟨b,_,rfl⟩:=xJ.1 hr;exact⟨_,rfl,b.toNat,rfl,b.toNat_lt⟩
theorem bl9{E ids:List D}{n:Nat}(hE:E.length=n)(hc:∀d∈ids,d.cell=true):aW (bQ (lk (E++ids))) (BF n ids.length)=some ids:=
 zK ids n fun i d hi=>⟨by rw[←hE,xq (by omega),Nat.add_sub_cancel_left];exact hi,hc d (xu hi)⟩
def flC(f:dK)(src:aL)(ids:List D)(rows:List (List D)):List D:=f.s++[.str src]++(ids++[.ptr [.sl rows] 0])
def sY(f:dK)(src:aL)(ids:List D)(rows:List (List D)):D:= .ptr (flC f src ids rows) 0
def OfQ(ar:List (List Nat))(f:dK)(o:List D):Prop:=∃(src:aL) (rows:List (List D)) (ids:List D),o=[sY f src ids rows,iD 0]∧LP ar rows∧sB ids
theorem ck4(hX:lO X)(hP:wJ X)(hI:wK X)(h7:CH X){ar:List (List Nat)}{f:dK}(hf:gZ ar f):Rn F X 107 0 f.s (OfQ ar f):=by
 have c1:=ba3 hX hI hf;have c2:=bi3 hX hP hI h7 hf.ok;have c3:=PP (X:=X) hf.ok;obtain⟨nm,fl,lk,cs⟩:=f;have sm:=fun(s:List UInt8) (h:s.length≤500000000)=>bA7 (X:=X) (rows:=bO s) (by rw[rD];omega) (bf0 s)
 refine wr rfl<|wg 1 rfl<|wx rfl c1 fun|_,⟨rows,rfl,hr⟩=>⟨rfl,?_⟩
 refine wg 2 rfl<|wx rfl c2 fun|_,⟨s,rfl,hs⟩=>⟨rfl,?_⟩
 refine wl rfl c3 rfl<|cW<|wg 1 rfl<|wo rfl (uT (t:=[]) (by simp only [xd];omega))<|wg 1 rfl<|wx rfl (sm s hs) ?_;intro ids oh;have oh:sB ids:=oh;refine⟨BQ ids 32 oh.len oh.cells,?_⟩;dsimp only [dS,Ex.r,St.r,List.cons_append,List.nil_append,jT,jS,jR,jQ,jP,dK.s];have hd:=fun(E:List D) (hE:E.length=13)=>bl9 (ids:=ids) hE oh.cells
 rw[oh.len] at hd;refine Wp.op (LC (B4 (a:=[cd 7,cd 8,cd 9,cd 10,cd 6]) rfl (B4 (hd [_,_,_,_,_,_,_,_,_,_,_,_,_] rfl) (b:=[cd 4]) rfl))) rfl rfl<|Wp.ret (cG (d1 (jN (by simp only [xi,oh.len])) rfl) rfl) ⟨s,rows,ids,rfl,hr,oh⟩
def cP8(o:List D):Prop:=∃(f:dK) (ar:List (List Nat)) (src:aL) (rows:List (List D)) (ids:List D),o=sY f src ids rows::f.r∧gZ ar f∧LP ar rows∧sB ids
theorem bs3(p:DP):Rn F X 108 0 p.d cP8:=by
 have c1:=O9 (X:=X) p;obtain⟨fl,L,C⟩:=p;refine wr rfl<|wg 1 rfl<|wx rfl c1 ?_;rintro _ ⟨f,ar,rfl,hf⟩;have c2:=bb0 (X:=X) hf.ok;have c3:=ck4 (X:=X) ⟨bc4⟩ xpr bt1 (bf6 xpr) hf;obtain⟨nm,Ve,lk,cs⟩:=f;refine⟨rfl,?_⟩;refine wg 1 rfl<|w7<|wL rfl c2 rfl<|cW<|wg 1 rfl<|wx rfl c3 fun|_,⟨src,rows,ids,rfl,hr,oh⟩=>⟨rfl,?_⟩
 exact wg 1 rfl<|wt rfl ⟨⟨nm,Ve,lk,cs⟩,ar,src,rows,ids,rfl,hf,hr,oh⟩
end
def bo(l:List Ch):List (List D):=l.map Ch.dd
theorem dO(l:List Ch):(bo l).length=l.length:=xm _
theorem bm6(l:List Ch)(c:Ch):bo l++[c.dd]=bo (l++[c]):=Cb Ch.dd l c
theorem tu{l pre ae:List Ch}{a:Ch}(h:l=pre++a::ae):(bo l)[pre.length]? =some a.dd:=bR (f:=Ch.dd) h
def nJ(c:Ch):List Ch→List Ch
 |[]=>[c]
 |x::r=>if x.key=c.key then x::r else if KL c.key x.key then c::x::r else x::nJ c r
def CK(acc l:List Ch):List Ch:=l.foldl (fun o c=>nJ c o) acc
def jX(l:List Ch):Prop:=l.Pairwise fun x y=>KL x.key y.key
theorem Pu{c x:Ch}:∀{l:List Ch},x∈nJ c l→x=c∨x∈l
 |[],h=>by unfold nJ at h;exact .inl (xy.1 h)
 |y::r,h=>by
  unfold nJ at h;split at h
  ·exact .inr h
  ·split at h
   ·rcases xG.1 h with h|h
    ·exact .inl h
    ·exact .inr h
   ·rcases xG.1 h with h|h
    ·exact .inr (by rw[h];simp)
    ·exact(Pu h).imp id fun h=>by simp[h]
theorem XY{c:Ch}:∀{l:List Ch},jX l→jX (nJ c l)
 |[],_=>by unfold nJ jX;exact List.pairwise_singleton _ _
 |y::r,h=>by
  unfold jX at h;rw[List.pairwise_cons] at h;unfold nJ;split
  ·exact List.pairwise_cons.2 h
  ·rename_i bq;split
   ·rename_i hl;refine List.pairwise_cons.2 ⟨fun x hx=> ?_,List.pairwise_cons.2 h⟩;rcases xG.1 hx with rfl|hx
    ·exact hl
    ·exact hl.trans (h.1 x hx)
   ·rename_i hl;refine List.pairwise_cons.2 ⟨fun x hx=> ?_,XY h.2⟩;rcases Pu hx with rfl|hx
    ·exact KL.total (fun e=>bq e.symm) hl
    ·exact h.1 x hx
theorem Py(c:Ch):∀l:List Ch,(nJ c l).length≤l.length+1
 |[]=>xk _
 |y::r=>by
  unfold nJ;split
  ·simp
  ·split
   ·simp
   ·have:=Py c r;simp only [xi];omega
theorem We:∀{l acc:List Ch},jX acc→jX (CK acc l)
 |[],acc,h=>h
 |c::l,acc,h=>We (l:=l) (XY h)
theorem Wg:∀(l acc:List Ch),(CK acc l).length≤acc.length+l.length
 |[],acc=>xk _
 |c::l,acc=>by
  have h1:=Wg l (nJ c acc);have h2:=Py c acc;show(CK (nJ c acc) l).length≤_;simp only [xi];omega
theorem Wf{x:Ch}:∀{l acc:List Ch},x∈CK acc l→x∈acc∨x∈l
 |[],acc,h=> .inl h
 |c::l,acc,h=>by
  rcases Wf (l:=l) (acc:=nJ c acc) h with h|h
  ·rcases Pu h with rfl|h
   ·exact .inr (by simp)
   ·exact .inl h
  ·exact .inr (by simp[h])
theorem P7{l:List (List D)}{i:Nat}{x:Ch}(h:l[i]? =some x.dd):aN (.eM 0 7 true) [.sl l,jD i]=some (.agg x.dd):=by
 show(l[i]?).bind (fun r=>u3 r 0 7 true)=_;rw[h];rfl
theorem kW{l:List Ch}{x:Ch}(h:l.length≤100000):aN (.app 7 72) [.sl (bo l),.sl [x.dd]]=some (.sl (bo (l++[x]))):=by
 rw[fZ (es:=7) (bys:=72) (row:=x.dd) (rows:=bo l) rfl rfl (by rw[dO];omega) (by rw[dO];omega),bm6]
section
variable{X:Nat→List D→Option (List D)}{l out:List Ch}{c:Ch}{i:Nat}{Q:List D→Prop}(hi:i+1≤100000)(ho:out.length≤10000)
include hi ho
theorem Zg:∀(ae pre nx:List Ch),out=pre++ae→nx.length+ae.length≤20000→Rn F X 123 1 [.sl (bo (nx++ae)),.sl (bo l),jD l.length,jD (i+1)] Q→
 Rn F X 123 3 ([.sl (bo nx),.sl (bo l),jD l.length,jD i,.sl (bo out),jD out.length,jD pre.length]++c.dd) Q:=by
 intro ae
 induction ae with
 |nil=>
  intro pre nx hp hn H;rw[xj] at hp H;have hp':pre.length=out.length:=by rw[hp]
  exact wr rfl<|kf<|wn rfl af<|wo rfl (gE (a:=i) (b:=1) (by omega))<|wj H
 |cons x ae ih=>
  intro pre nx hp hn H;have aF:=bj hp;have aq:=tu hp;have iw:nx.length+(ae.length+1)≤20000:=hn;have next:=ih (pre++[x]) (nx++[x]) (by rw[hp,aV]) (by rw[xa,show[x].length=1 from rfl];omega) (by rw[←aV];exact H);rw[xa,show[x].length=1 from rfl] at next;have Bs:=kW (l:=nx) (x:=x) (by omega);have mS:aN .jF [.sl (bo out),jD pre.length]=some (.bool (decide (pre.length<out.length))):=fm (dO _);refine wr rfl<|wy rfl af<|wy rfl mS<|Wp.aC rfl (P7 aq) rfl<|Wp.br rfl (Fo (x:=x.key) (y:=c.key) (neg:=false)) (fun _=> ?_) (fun _=> ?_)
  ·exact wg 1 rfl<|Wp.op rfl (d:= .sl [x.dd]) rfl rfl<|wo rfl Bs<|wo rfl (gE (a:=pre.length) (b:=1) (by omega))<|wj next
  ·exact wg 1 rfl<|Wp.op rfl (d:= .sl [x.dd]) rfl rfl<|wo rfl Bs<|wo rfl (gE (a:=pre.length) (b:=1) (by omega))<|wj next
theorem cf0:∀(ae pre:List Ch),out=pre++ae→Rn F X 123 1 [.sl (bo (pre++nJ c ae)),.sl (bo l),jD l.length,jD (i+1)] Q→
 Rn F X 123 2 ([.sl (bo pre),.sl (bo l),jD l.length,jD i,.sl (bo out),jD out.length,jD pre.length]++c.dd) Q:=by
 intro ae
 induction ae with
 |nil=>
  intro pre hp H;rw[xj] at hp;have hp':pre.length=out.length:=by rw[hp]
  have Bs:=kW (l:=pre) (x:=c) (by omega);exact wr rfl<|wn rfl af<|wg 1 rfl<|Wp.op rfl (d:= .sl [c.dd]) rfl rfl<|wo rfl Bs<|wo rfl (gE (a:=i) (b:=1) (by omega))<|wj H
 |cons x ae ih=>
  intro pre hp H;have aF:=bj hp;have aq:=tu hp;have Bs:=kW (l:=pre) (x:=x) (by omega);have dj9:=kW (l:=pre) (x:=c) (by omega);have dj8:=kW (l:=pre++[c]) (x:=x) (by rw[xa,show[c].length=1 from rfl];omega);have mS:aN .jF [.sl (bo out),jD pre.length]=some (.bool (decide (pre.length<out.length))):=fm (dO _);have cl:=bs4 (X:=X) c.key x.key;refine wr rfl<|wy rfl af<|wy rfl mS<|Wp.aC rfl (P7 aq) rfl ?_;unfold nJ at H;refine Wp.br rfl (Fo (x:=x.key) (y:=c.key) (neg:=false)) (fun h0=> ?_) (fun h0=> ?_)
  ·have h0:x.key=c.key:=by simpa using h0
   rw[if_pos h0] at H;have HM:=Zg (X:=X) (c:=c) (l:=l) (Q:=Q) hi ho ae (pre++[x]) (pre++[x]) (by rw[hp,aV]) (by rw[xa,show[x].length=1 from rfl];omega) (by rw[←aV];exact H);rw[xa,show[x].length=1 from rfl] at HM;exact wg 1 rfl<|Wp.op rfl (d:= .sl [x.dd]) rfl rfl<|wo rfl Bs<|wo rfl (gE (a:=pre.length) (b:=1) (by omega))<|wj HM
  ·have h0: ¬x.key=c.key:=by simpa using h0
   rw[if_neg h0] at H;refine wg 1 rfl ?_;by_cases h1:KL c.key x.key
   ·rw[if_pos h1] at H;rw[decide_eq_true h1] at cl;have HM:=Zg (X:=X) (c:=c) (l:=l) (Q:=Q) hi ho ae (pre++[x]) (pre++[c]++[x]) (by rw[hp,aV]) (by rw[xa,xa,show[x].length=1 from rfl,show[c].length=1 from rfl];omega) (by rw[←aV,←aV];exact H);rw[xa,show[x].length=1 from rfl] at HM;exact wL rfl cl rfl<|wg 1 rfl<|Wp.op rfl (d:= .sl [c.dd]) rfl rfl<|wo rfl dj9<|wg 1 rfl<|Wp.op rfl (d:= .sl [x.dd]) rfl rfl<|wo rfl dj8<|wo rfl (gE (a:=pre.length) (b:=1) (by omega))<|wj HM
   ·rw[if_neg h1] at H;rw[decide_eq_false h1] at cl;have next:=ih (pre++[x]) (by rw[hp,aV]) (by rw[←aV];exact H);rw[xa,show[x].length=1 from rfl] at next;exact wL rfl cl rfl<|wg 1 rfl<|Wp.op rfl (d:= .sl [x.dd]) rfl rfl<|wo rfl Bs<|wo rfl (gE (a:=pre.length) (b:=1) (by omega))<|wj next
omit hi ho in
theorem bp8(hl:l.length≤1000):Rn F X 123 0 [.sl (bo l)] (·=[.sl (bo (CK [] l))]):=by
 have loop:∀(ae pre acc:List Ch),l=pre++ae→acc.length≤pre.length→Rn F X 123 1 [.sl (bo acc),.sl (bo l),jD l.length,jD pre.length] (·=[.sl (bo (CK acc ae))]):=by
  intro ae
  induction ae with
  |nil=>
   intro pre acc hp ha;rw[xj] at hp;have hp':pre.length=l.length:=by rw[hp]
   exact wr rfl<|wn rfl af<|wt rfl rfl
  |cons c ae ih=>
   intro pre acc hp ha;have aF:=bj hp;have aq:=tu hp;have oB:=Py c acc;have next:=ih (pre++[c]) (nJ c acc) (by rw[hp,aV]) (by rw[xa,show[c].length=1 from rfl];omega);rw[xa,show[c].length=1 from rfl] at next;have s2:=cf0 (X:=X) (c:=c) (l:=l) (i:=pre.length) (out:=acc) (by omega) (by omega) acc [] rfl next;exact wr rfl<|wy rfl af<|wo rfl (aA aq rfl)<|Wp.aC rfl (l:=c.dd) rfl rfl<|wo rfl (az (n:=acc.length) (dO _))<|wj s2
 have g:=loop l [] [] rfl (xk _);exact wr rfl<|wo rfl (az (n:=l.length) (dO _))<|wj g
end
end
end Go.Proofs.YtnjdjocokegphaaGreatDoor
