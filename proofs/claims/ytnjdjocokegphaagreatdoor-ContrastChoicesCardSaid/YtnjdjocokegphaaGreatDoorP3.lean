/- What these functions answer. -/
import Derived.Test.YtnjdjocokegphaaGreatDoorP2
set_option linter.unusedVariables false
set_option linter.unusedSimpArgs false
set_option maxHeartbeats 4000000
set_option maxRecDepth 100000
namespace Go.Fl
open Go.Ex
theorem Ex.PK:∀{l:List Ex} {a:Ex},a∈l→a.dp≤Ex.dU l
 |e::l,a,h=>by
  rcases xG.1 h with rfl|h
  ·simp only [Ex.dU];omega
  ·have:=Ex.PK h;simp only [Ex.dU];omega
theorem Ex.W4:∀(l:List Ex) (a:Ex),Ex.dU (l++[a])=max (Ex.dU l) a.dp
 |[],a=>by simp[Ex.dU]
 |e::l,a=>by simp only [List.cons_append,Ex.dU,Ex.W4 l a];omega
def St.mx:List St→Nat|[]=>0|s::l=>max (St.dp s) (St.mx l)
theorem St.XP:∀(l:List St) (a:St),St.mx (l++[a])=max (St.mx l) a.dp
 |[],a=>by simp[St.mx]
 |e::l,a=>by simp only [List.cons_append,St.mx,St.XP l a];omega
theorem St.Y0:∀(l:List St),l≠[]→St.dU l=St.mx l+1
 |[],h=>absurd rfl h
 |[s],_=>by simp[St.dU,St.mx]
 |s::t::l,_=>by
  have:=St.Y0 (t::l) (by simp);rw[St.dU,St.mx,this];omega
def St.sb:List St→Nat|[]=>0|s::l=>St.sub s+St.sb l
theorem St.Xt:∀(l:List St) (a:St),St.sb (l++[a])=St.sb l+a.sub
 |[],a=>by simp[St.sb]
 |e::l,a=>by simp only [List.cons_append,St.sb,St.Xt l a];omega
theorem St.QP:∀(l:List St),St.ns l=l.length+St.sb l
 |[]=>rfl
 | .mk .. ::l=>by simp only [St.ns,St.n,St.sb,St.sub,St.QP l,xi];omega
theorem St.u4:∀(l m:List St),St.ns (l++m)=St.ns l+St.ns m
 |[],m=>by simp[St.ns]
 |e::l,m=>by simp only [List.cons_append,St.ns,St.u4 l m];omega
theorem St.YO:∀{l:List St} {a:St},a∈l→a.dp≤St.mx l
 |e::l,a,h=>by
  rcases xG.1 h with rfl|h
  ·simp only [St.mx];omega
  ·have:=St.YO h;simp only [St.mx];omega
end Go.Fl
namespace Go.Proofs.YtnjdjocokegphaaGreatDoor
open Go.Ex Go.RowKit Go.Fl
section
variable{X:Nat→List D→Option (List D)}
theorem br6{a b c:Nat}:aN .mx [iD a,iD b,iD c]=some (iD (max a (max b c))):=by rw[bB9];congr 2;omega
theorem aZ7{e:Fl.Ex}(h:ke iC e):e.dp≤100→Rn F X 17 0 (Ex.s e) (·=[iD e.dp]):=by
 induction h with
 | @mk op name n args hn ha ih=>
  intro hd;have nQ:Ex.dU args+1≤100:=hd;obtain⟨h1,h2,h3,h4,h5⟩:=hn.get;have eu:jU op≤2:=by unfold jU;split<;>(try split)<;>omega
  have loop:∀(ae pre:List Fl.Ex),args=pre++ae→Rn F X 17 1 [iD (Ex.dU pre),jD args.length,jD pre.length,bD op,.str name,iD n,.sl (Ex.ss args)] (·=[iD (Ex.dU args+1)]):=by
   intro ae
   induction ae with
   |nil=>
    intro pre hp;rw[xj] at hp;subst hp;exact wr rfl<|wn rfl af<|wo rfl oA<|wt rfl rfl
   |cons a ae cZ=>
    intro pre hp;have aF:=bj hp;have aq:(Ex.ss args)[pre.length]? =some (Ex.s a):=by rw[hp];exact rN _ _ _
    have hm:a∈args:=by rw[hp];simp
    have mc:=ih a hm (xH (Ex.PK hm) (by omega));have:=cZ (pre++[a]) (by rw[hp,aV]);rw[Ex.W4,xa] at this;obtain⟨o1,n1,i1,a1⟩:=a;exact wr rfl<|wy rfl af<|wo rfl (aA aq rfl)<|wg 1 rfl<|kF<|wl rfl mc rfl<|wo rfl bC0<|wo rfl oA<|wj this
  exact wr rfl<|wo rfl (az (jf _))<|wj (loop args [] rfl)
theorem bg9:∀(m:Nat) (l:List St),St.ns l≤m→m≤12→Rn F X 15 0 [.sl (St.ss l)] (·=[iD (St.ns l)]):=by
 intro m
 induction m with
 |zero=>
  intro l hl _;have:=mW l;obtain rfl:l=[]:=xE.1 (by omega);exact wr rfl<|wo rfl bl<|wo rfl bl<|Wp.jump rfl<|wr rfl<|wg 1 rfl<|wt rfl rfl
 |succ m ih=>
  intro l hl hm;have uv:=St.QP l;have loop:∀(ae pre:List St),l=pre++ae→Rn F X 15 1 [.sl (St.ss l),iD (l.length+St.sb pre),jD l.length,jD pre.length] (·=[iD (St.ns l)]):=by
   intro ae
   induction ae with
   |nil=>
    intro pre hp;rw[xj] at hp;subst hp;rw[←uv];exact wr rfl<|wn rfl af<|wt rfl rfl
   |cons a ae cZ=>
    intro pre hp;have aF:=bj hp;have aq:(St.ss l)[pre.length]? =some (St.s a):=by rw[hp];exact xW _ _ _
    have jV:St.ns l=St.ns pre+(St.n a+St.ns ae):=by rw[hp,St.u4];rfl
    have UI:=St.QP pre;have:=cZ (pre++[a]) (by rw[hp,aV]);rw[St.Xt,xa] at this;obtain⟨kind,name,bV,bg,th,el⟩:=a;simp only [St.n] at jV;simp only [St.sub] at this;rw[←Nat.add_assoc] at this;have i1:=ih th (by omega) (by omega);have i2:=ih el (by omega) (by omega);exact wr rfl<|wy rfl af<|wo rfl (aA aq rfl)<|wg 2 rfl<|wo rfl (aA aq rfl)<|w8<|wg 2 rfl<|wl rfl i1 rfl<|wl rfl i2 rfl<|kF<|wo rfl (gE (by omega))<|wo rfl (gE (by omega))<|wo rfl oA<|wj this
  exact wr rfl<|wo rfl (az (lR _))<|wo rfl (az (lR _))<|wj (loop l [] rfl)
theorem bl8:∀(m:Nat) (l:List St),St.ns l≤m→m≤12→St.dU l≤12→Rn F X 16 0 [.sl (St.ss l)] (·=[iD (St.dU l)]):=by
 intro m
 induction m with
 |zero=>
  intro l hl _ _;have:=mW l;obtain rfl:l=[]:=xE.1 (by omega);exact wr rfl<|wo rfl bl<|wg 1 rfl<|wt rfl rfl
 |succ m ih=>
  intro l hl hm hd;rcases xI l.length with h0|h0
  ·obtain rfl:l=[]:=xE.1 h0;exact wr rfl<|wo rfl bl<|wg 1 rfl<|wt rfl rfl
  have bq:l≠[]:=fun h=>by rw[h] at h0;cases h0
  have kK:=St.Y0 l bq;have dF4:=mW l;have loop:∀(ae pre:List St),l=pre++ae→Rn F X 16 1 [.sl (St.ss l),iD (St.mx pre),jD l.length,jD pre.length] (·=[iD (St.dU l)]):=by
   intro ae
   induction ae with
   |nil=>
    intro pre hp;rw[xj] at hp;subst hp;rw[kK];exact wr rfl<|wn rfl af<|wo rfl oA<|wt rfl rfl
   |cons a ae cZ=>
    intro pre hp;have aF:=bj hp;have aq:(St.ss l)[pre.length]? =some (St.s a):=by rw[hp];exact xW _ _ _
    have jV:St.ns l=St.ns pre+(St.n a+St.ns ae):=by rw[hp,St.u4];rfl
    have hdm:=St.YO (l:=l) (a:=a) (by rw[hp];simp);have:=cZ (pre++[a]) (by rw[hp,aV]);rw[St.XP,xa] at this;obtain⟨kind,name,bV,bg,th,el⟩:=a;simp only [St.n] at jV;simp only [St.dp] at this hdm;have i1:=ih th (by omega) (by omega) (by omega);have i2:=ih el (by omega) (by omega) (by omega);exact wr rfl<|wy rfl af<|wo rfl (aA aq rfl)<|wg 2 rfl<|wo rfl (aA aq rfl)<|w8<|wg 2 rfl<|wl rfl i1 rfl<|wl rfl i2 rfl<|kF<|wo rfl br6<|wo rfl oA<|wj this
  exact wr rfl<|wo rfl (az (lR _))<|wn rfl au<|wo rfl (az (lR _))<|wj (loop l [] rfl)
theorem Ye{op:Nat}(h1:1≤op)(h2:op≤23){P:Nat→Prop}(h:P 1∧P 2∧P 3∧P 4∧P 5∧P 6∧P 7∧P 8∧P 9∧P 10∧P 11∧P 12∧P 13∧P 14∧P 15∧P 16∧P 17∧P 18∧P 19∧P 20∧P 21∧P 22∧P 23):P op:=by
 have:op=1∨op=2∨op=3∨op=4∨op=5∨op=6∨op=7∨op=8∨op=9∨op=10∨op=11∨op=12∨op=13∨op=14∨op=15∨op=16∨op=17∨op=18∨op=19∨op=20∨op=21∨op=22∨op=23:=by omega
 obtain⟨a1,a2,a3,a4,a5,a6,a7,a8,a9,a10,a11,a12,a13,a14,a15,a16,a17,a18,a19,a20,a21,a22,a23⟩:=h;rcases this with rfl|rfl|rfl|rfl|rfl|rfl|rfl|rfl|rfl|rfl|rfl|rfl|rfl|rfl|rfl|rfl|rfl|rfl|rfl|rfl|rfl|rfl|rfl<;>assumption
def vK(op:Nat):Bool:=decide (5≤op∧op≤8)
def Ha(op:Nat):Nat:=if op≤8 then 7 else if op≤10 then 6 else if op≤13 then 5 else if op≤15 then 4 else if op≤21 then 3 else if op=22 then 2 else 1
def n6(op:Nat):aL:=match op with
 |2=>[116,114,117,101]
 |3=>[102,97,108,115,101]
 |4=>[110,111,119]
 |7=>[104,97,115,32]
 |8=>[115,105,122,101,32]
 |9=>[45]
 |10=>[110,111,116,32]
 |11=>[32,42,32]
 |12=>[32,47,32]
 |13=>[32,37,32]
 |14=>[32,43,32]
 |15=>[32,45,32]
 |16=>[32,61,61,32]
 |17=>[32,33,61,32]
 |18=>[32,60,32]
 |19=>[32,60,61,32]
 |20=>[32,62,32]
 |21=>[32,62,61,32]
 |22=>[32,97,110,100,32]
 |23=>[32,111,114,32]
 |_=>[]
theorem wX{op:Nat}(h1:1≤op)(h2:op≤23):Rn F X 18 0 [bD op] (·=[iD (jU op),.bool (vK op),iD (Ha op),.str (n6 op),.bool true]):=by
 refine Ye h1 h2 (P:=fun op=>Rn F X 18 0 [bD op] (·=[iD (jU op),.bool (vK op),iD (Ha op),.str (n6 op),.bool true])) ⟨?_,?_,?_,?_,?_,?_,?_,?_,?_,?_,?_,?_,?_,?_,?_,?_,?_,?_,?_,?_,?_,?_,?_⟩
 ·exact wr rfl<|wg 5 rfl<|w5<|wt rfl rfl
 ·exact wr rfl<|wg 5 rfl<|w5<|wt rfl rfl
 ·exact wr rfl<|wg 5 rfl<|w5<|wt rfl rfl
 ·exact wr rfl<|wg 5 rfl<|w5<|wt rfl rfl
 ·exact wr rfl<|wg 4 rfl<|w5<|wt rfl rfl
 ·exact wr rfl<|wg 4 rfl<|w5<|wt rfl rfl
 ·exact wr rfl<|wg 4 rfl<|w5<|wt rfl rfl
 ·exact wr rfl<|wg 4 rfl<|w5<|wt rfl rfl
 ·exact wr rfl<|wg 5 rfl<|w5<|wt rfl rfl
 ·exact wr rfl<|wg 5 rfl<|w5<|wt rfl rfl
 ·exact wr rfl<|wg 5 rfl<|w5<|wt rfl rfl
 ·exact wr rfl<|wg 5 rfl<|w5<|wt rfl rfl
 ·exact wr rfl<|wg 5 rfl<|w5<|wt rfl rfl
 ·exact wr rfl<|wg 5 rfl<|w5<|wt rfl rfl
 ·exact wr rfl<|wg 5 rfl<|w5<|wt rfl rfl
 ·exact wr rfl<|wg 5 rfl<|w5<|wt rfl rfl
 ·exact wr rfl<|wg 5 rfl<|w5<|wt rfl rfl
 ·exact wr rfl<|wg 5 rfl<|w5<|wt rfl rfl
 ·exact wr rfl<|wg 5 rfl<|w5<|wt rfl rfl
 ·exact wr rfl<|wg 5 rfl<|w5<|wt rfl rfl
 ·exact wr rfl<|wg 5 rfl<|w5<|wt rfl rfl
 ·exact wr rfl<|wg 5 rfl<|w5<|wt rfl rfl
 ·exact wr rfl<|wg 5 rfl<|w5<|wt rfl rfl
def fo(k:Nat):Bool×Bool×Nat×Nat×Bool×Bool:=match k with
 |1=>(true,false,1,1,false,false)
 |2=>(true,false,2,2,false,false)
 |3=>(true,false,1,1,false,false)
 |4=>(false,false,1,1,true,true)
 |5=>(false,false,1,1,true,false)
 |6=>(true,true,0,4,false,false)
 |7=>(false,true,1,5,false,false)
 |8=>(false,false,2,2,false,true)
 |9=>(true,false,1,1,false,true)
 |_=>(false,false,0,0,false,false)
theorem bv2{k:Nat}(h1:1≤k)(h2:k≤10){P:Nat→Prop}(h:P 1∧P 2∧P 3∧P 4∧P 5∧P 6∧P 7∧P 8∧P 9∧P 10):P k:=by
 have:k=1∨k=2∨k=3∨k=4∨k=5∨k=6∨k=7∨k=8∨k=9∨k=10:=by omega
 obtain⟨a1,a2,a3,a4,a5,a6,a7,a8,a9,a10⟩:=h;rcases this with rfl|rfl|rfl|rfl|rfl|rfl|rfl|rfl|rfl|rfl<;>assumption
def foD(k:Nat):List D:=[.bool (fo k).1,.bool (fo k).2.1,iD (fo k).2.2.1,iD (fo k).2.2.2.1,.bool (fo k).2.2.2.2.1,.bool (fo k).2.2.2.2.2,.bool true]
theorem X7{k:Nat}(h1:1≤k)(h2:k≤10):Rn F X 19 0 [bD k] (·=foD k):=by
 refine bv2 h1 h2 (P:=fun k=>Rn F X 19 0 [bD k] (·=foD k)) ⟨?_,?_,?_,?_,?_,?_,?_,?_,?_,?_⟩
 ·exact wr rfl<|wg 11 rfl<|w7<|wt rfl rfl
 ·exact wr rfl<|wg 11 rfl<|w7<|wt rfl rfl
 ·exact wr rfl<|wg 11 rfl<|w7<|wt rfl rfl
 ·exact wr rfl<|wg 16 rfl<|w7<|wt rfl rfl
 ·exact wr rfl<|wg 17 rfl<|w7<|wt rfl rfl
 ·exact wr rfl<|wg 7 rfl<|w7<|wt rfl rfl
 ·exact wr rfl<|wg 15 rfl<|w7<|wt rfl rfl
 ·exact wr rfl<|wg 18 rfl<|w7<|wt rfl rfl
 ·exact wr rfl<|wg 10 rfl<|w7<|wt rfl rfl
 ·exact wr rfl<|wg 19 rfl<|w7<|wt rfl rfl
end
structure lO (X:Nat→List D→Option (List D)):Prop where
 name:∀s∈GN,Rn F X 109 0 [.str s] (·=[.bool true])
section
variable{X:Nat→List D→Option (List D)}
theorem aT9(hX:lO X){e:Fl.Ex}(hn:iC e):Rn F X 30 0 [.ptr (Ex.s e) 0] (·=[.bool true]):=by
 obtain⟨op,name,n,args⟩:=e;obtain⟨h1,h2,h3,h4,h5⟩:=hn.get;have dL:=wX (X:=X) h1 h2;rcases h5 with⟨a,b,hm⟩|⟨a,rfl⟩
 ·rw[show vK op=true from decide_eq_true ⟨a,b⟩] at dL;have ia:=hX.name name hm;exact wr rfl<|wg 3 rfl<|wl rfl dL rfl<|w9<|wg 3 rfl<|wl rfl ia rfl<|jq<|wt rfl rfl
 ·rw[show vK op=false from decide_eq_false (by omega)] at dL;exact wr rfl<|wg 3 rfl<|wl rfl dL rfl<|w9<|wt rfl rfl
theorem aT3{e:Fl.Ex}(hn:iC e):Rn F X 31 0 [.ptr (Ex.s e) 0] (·=[.bool true]):=by
 obtain⟨op,name,n,args⟩:=e;obtain⟨h1,h2,h3,h4,h5⟩:=hn.get;have dL:=wX (X:=X) h1 h2;have hl:=jf args;rcases h5 with⟨a,b,hm⟩|⟨a,rfl⟩
 ·rw[show vK op=true from decide_eq_true ⟨a,b⟩] at dL;exact wr rfl<|wg 3 rfl<|wl rfl dL rfl<|w9<|wg 3 rfl<|wo rfl bl<|jq<|wn rfl ew<|wg 3 rfl<|wn rfl au<|wg 1 rfl<|fK<|wg 2 rfl<|wy rfl au<|wt rfl rfl
 ·rw[show vK op=false from decide_eq_false (by omega)] at dL;rcases h4 with⟨rfl,h4⟩|⟨h6,rfl⟩
  ·exact wr rfl<|wg 3 rfl<|wl rfl dL rfl<|w9<|wg 3 rfl<|wo rfl bl<|jq<|Wp.cN rfl ew (by rw[hl,h3];simp)<|wg 5 rfl<|fK<|wg 5 rfl<|eH<|wg 1 rfl<|wy rfl yd<|wt rfl rfl
  ·exact wr rfl<|wg 3 rfl<|wl rfl dL rfl<|w9<|wg 3 rfl<|wo rfl bl<|jq<|wn rfl ew<|wg 5 rfl<|fK<|wg 2 rfl<|wn rfl au<|wg 2 rfl<|eH<|wg 2 rfl<|wt rfl rfl
theorem aZ9(hX:lO X){e:Fl.Ex}(h:ke iC e):Rn F X 20 0 [.ptr (Ex.s e) 0] (·=[.bool true]):=by
 induction h with
 | @mk op name n args hn ha ih=>
  obtain⟨h1,h2,h3,h4,h5⟩:=hn.get;have eu:jU op≤2:=by unfold jU;split<;>(try split)<;>omega
  have hg:=aT9 (X:=X) hX hn;have loop:∀(ae pre:List Fl.Ex),args=pre++ae→Rn F X 20 1 [.ptr (Ex.s ⟨op,name,n,args⟩) 0,jD args.length,jD pre.length] (·=[.bool true]):=by
   intro ae
   induction ae with
   |nil=>
    intro pre hp;rw[xj] at hp;subst hp;exact wr rfl<|wn rfl af<|wt rfl rfl
   |cons a ae cZ=>
    intro pre hp;have aF:=bj hp;have aq:(Ex.ss args)[pre.length]? =some (Ex.s a):=by rw[hp];exact rN _ _ _
    have mc:=ih a (by rw[hp];simp);have:=cZ (pre++[a]) (by rw[hp,aV]);rw[xa] at this;obtain⟨o1,n1,i1,a1⟩:=a;exact wr rfl<|wy rfl af<|wg 3 rfl<|wo rfl (aA aq rfl)<|w7<|wl rfl mc rfl<|wo rfl oA<|wj this
  exact wr rfl<|wl rfl hg rfl<|wg 3 rfl<|w5<|wo rfl (az (jf _))<|wj (loop args [] rfl)
theorem aZ8{e:Fl.Ex}(h:ke iC e):Rn F X 21 0 [.ptr (Ex.s e) 0] (·=[.bool true]):=by
 induction h with
 | @mk op name n args hn ha ih=>
  obtain⟨h1,h2,h3,h4,h5⟩:=hn.get;have eu:jU op≤2:=by unfold jU;split<;>(try split)<;>omega
  have hg:=aT3 (X:=X) hn;have loop:∀(ae pre:List Fl.Ex),args=pre++ae→Rn F X 21 1 [.ptr (Ex.s ⟨op,name,n,args⟩) 0,jD args.length,jD pre.length] (·=[.bool true]):=by
   intro ae
   induction ae with
   |nil=>
    intro pre hp;rw[xj] at hp;subst hp;exact wr rfl<|wn rfl af<|wt rfl rfl
   |cons a ae cZ=>
    intro pre hp;have aF:=bj hp;have aq:(Ex.ss args)[pre.length]? =some (Ex.s a):=by rw[hp];exact rN _ _ _
    have mc:=ih a (by rw[hp];simp);have:=cZ (pre++[a]) (by rw[hp,aV]);rw[xa] at this;obtain⟨o1,n1,i1,a1⟩:=a;exact wr rfl<|wy rfl af<|wg 3 rfl<|wo rfl (aA aq rfl)<|w7<|wl rfl mc rfl<|wo rfl oA<|wj this
  exact wr rfl<|wl rfl hg rfl<|wg 3 rfl<|w5<|wo rfl (az (jf _))<|wj (loop args [] rfl)
theorem bo9(hX:lO X){s:St}(hs:mj s):Rn F X 22 0 [.ptr (St.s s) 0] (·=[.bool true]):=by
 obtain⟨kind,name,bV,bg,th,el⟩:=s;have fH:bg.length≤3:=by have:=hs.ln;omega
 have loop:∀(ae pre:List Fl.Ex),bg=pre++ae→Rn F X 22 1 [.ptr (St.s ⟨kind,name,bV,bg,th,el⟩) 0,jD bg.length,jD pre.length] (·=[.bool true]):=by
  intro ae
  induction ae with
  |nil=>
   intro pre hp;rw[xj] at hp;subst hp;exact wr rfl<|wn rfl af<|wt rfl rfl
  |cons a ae cZ=>
   intro pre hp;have aF:=bj hp;have aq:(Ex.ss bg)[pre.length]? =some (Ex.s a):=by rw[hp];exact rN _ _ _
   have ha:=hs.ex a (by rw[hp];simp);have NN:=ha.2;have mc:=aZ9 (X:=X) hX ha.1;have:=cZ (pre++[a]) (by rw[hp,aV]);rw[xa] at this;obtain⟨o1,n1,i1,a1⟩:=a;exact wr rfl<|wy rfl af<|wg 3 rfl<|wo rfl (aA aq rfl)<|w7<|wl rfl mc rfl<|wo rfl oA<|wj this
 exact wr rfl<|wg 3 rfl<|wo rfl (az (jf _))<|w5<|wj (loop bg [] rfl)
theorem bo8{s:St}(hs:mj s):Rn F X 23 0 [.ptr (St.s s) 0] (·=[.bool true]):=by
 obtain⟨kind,name,bV,bg,th,el⟩:=s;have fH:bg.length≤3:=by have:=hs.ln;omega
 have loop:∀(ae pre:List Fl.Ex),bg=pre++ae→Rn F X 23 1 [.ptr (St.s ⟨kind,name,bV,bg,th,el⟩) 0,jD bg.length,jD pre.length] (·=[.bool true]):=by
  intro ae
  induction ae with
  |nil=>
   intro pre hp;rw[xj] at hp;subst hp;exact wr rfl<|wn rfl af<|wt rfl rfl
  |cons a ae cZ=>
   intro pre hp;have aF:=bj hp;have aq:(Ex.ss bg)[pre.length]? =some (Ex.s a):=by rw[hp];exact rN _ _ _
   have ha:=hs.ex a (by rw[hp];simp);have NN:=ha.2;have mc:=aZ8 (X:=X) ha.1;have:=cZ (pre++[a]) (by rw[hp,aV]);rw[xa] at this;obtain⟨o1,n1,i1,a1⟩:=a;exact wr rfl<|wy rfl af<|wg 3 rfl<|wo rfl (aA aq rfl)<|w7<|wl rfl mc rfl<|wo rfl oA<|wj this
 exact wr rfl<|wg 3 rfl<|wo rfl (az (jf _))<|w5<|wj (loop bg [] rfl)
theorem bA9{s:St}(hs:mj s):Rn F X 34 0 [.ptr (St.s s) 0] (·=[.bool true]):=by
 obtain⟨kind,name,bV,bg,th,el⟩:=s;have fH:bg.length≤3:=by have:=hs.ln;omega
 have loop:∀(ae pre:List Fl.Ex),bg=pre++ae→Rn F X 34 1 [.sl (Ex.ss bg),jD bg.length,jD pre.length] (·=[.bool true]):=by
  intro ae
  induction ae with
  |nil=>
   intro pre hp;rw[xj] at hp;subst hp;exact wr rfl<|wn rfl af<|wt rfl rfl
  |cons a ae cZ=>
   intro pre hp;have aF:=bj hp;have aq:(Ex.ss bg)[pre.length]? =some (Ex.s a):=by rw[hp];exact rN _ _ _
   have ha:=hs.ex a (by rw[hp];simp);have NN:=ha.2;have mc:=aZ7 (X:=X) ha.1 (by omega);have:=cZ (pre++[a]) (by rw[hp,aV]);rw[xa] at this;obtain⟨o1,n1,i1,a1⟩:=a;exact wr rfl<|wy rfl af<|wo rfl (aA aq rfl)<|wg 1 rfl<|w8<|wl rfl mc rfl<|wn rfl ch<|wo rfl oA<|wj this
 exact wr rfl<|wg 3 rfl<|wo rfl (az (jf _))<|w5<|wj (loop bg [] rfl)
theorem aT8(hX:lO X){s:St}(hs:mj s):Rn F X 32 0 [.ptr (St.s s) 0] (·=[.bool true]):=by
 have hw:=bo9 hX hs;obtain⟨kind,name,bV,bg,th,el⟩:=s;have hf:=X7 (X:=X) hs.k1 hs.wh;have k1:=hs.k1;have wh:=hs.wh;have key:∀k,kind=k→Rn F X 32 0 [.ptr (St.s ⟨kind,name,bV,bg,th,el⟩) 0] (·=[.bool true]):=by
  intro k hk;have ia:((kind=1∨kind=2∨kind=3∨kind=6∨kind=9)→Rn F X 109 0 [.str name] (·=[.bool true])):=fun h=>by
   rcases hs.nm with⟨_,h2⟩|⟨h1,_⟩
   ·exact hX.name _ h2
   ·omega
  have sS:(kind=6∨kind=7)→Rn F X 109 0 [.str bV] (·=[.bool true]):=fun h=>by
   rcases hs.hn with⟨_,h2⟩|⟨h1,_⟩
   ·exact hX.name _ h2
   ·omega
  have:kind=1∨kind=2∨kind=3∨kind=4∨kind=5∨kind=6∨kind=7∨kind=8∨kind=9∨kind=10:=by omega
  rcases this with rfl|rfl|rfl|rfl|rfl|rfl|rfl|rfl|rfl|rfl
  ·have hf:Rn F X 19 0 [bD 1] (·=[.bool true,.bool false,iD 1,iD 1,.bool false,.bool false,.bool true]):=hf;exact wr rfl<|wg 3 rfl<|wl rfl hf rfl<|cW<|wg 3 rfl<|wl rfl (ia (by omega)) rfl<|dC<|wl rfl hw rfl<|wt rfl rfl
  ·have hf:Rn F X 19 0 [bD 2] (·=[.bool true,.bool false,iD 2,iD 2,.bool false,.bool false,.bool true]):=hf;exact wr rfl<|wg 3 rfl<|wl rfl hf rfl<|cW<|wg 3 rfl<|wl rfl (ia (by omega)) rfl<|dC<|wl rfl hw rfl<|wt rfl rfl
  ·have hf:Rn F X 19 0 [bD 3] (·=[.bool true,.bool false,iD 1,iD 1,.bool false,.bool false,.bool true]):=hf;exact wr rfl<|wg 3 rfl<|wl rfl hf rfl<|cW<|wg 3 rfl<|wl rfl (ia (by omega)) rfl<|dC<|wl rfl hw rfl<|wt rfl rfl
  ·have hf:Rn F X 19 0 [bD 4] (·=[.bool false,.bool false,iD 1,iD 1,.bool true,.bool true,.bool true]):=hf;exact wr rfl<|wg 3 rfl<|wl rfl hf rfl<|cW<|wl rfl hw rfl<|wt rfl rfl
  ·have hf:Rn F X 19 0 [bD 5] (·=[.bool false,.bool false,iD 1,iD 1,.bool true,.bool false,.bool true]):=hf;exact wr rfl<|wg 3 rfl<|wl rfl hf rfl<|cW<|wl rfl hw rfl<|wt rfl rfl
  ·have hf:Rn F X 19 0 [bD 6] (·=[.bool true,.bool true,iD 0,iD 4,.bool false,.bool false,.bool true]):=hf;exact wr rfl<|wg 3 rfl<|wl rfl hf rfl<|cW<|wg 3 rfl<|wl rfl (ia (by omega)) rfl<|dC<|wg 3 rfl<|wl rfl (sS (by omega)) rfl<|fJ<|wl rfl hw rfl<|wt rfl rfl
  ·have hf:Rn F X 19 0 [bD 7] (·=[.bool false,.bool true,iD 1,iD 5,.bool false,.bool false,.bool true]):=hf;exact wr rfl<|wg 3 rfl<|wl rfl hf rfl<|cW<|wg 3 rfl<|wl rfl (sS (by omega)) rfl<|dC<|wl rfl hw rfl<|wt rfl rfl
  ·have hf:Rn F X 19 0 [bD 8] (·=[.bool false,.bool false,iD 2,iD 2,.bool false,.bool true,.bool true]):=hf;exact wr rfl<|wg 3 rfl<|wl rfl hf rfl<|cW<|wl rfl hw rfl<|wt rfl rfl
  ·have hf:Rn F X 19 0 [bD 9] (·=[.bool true,.bool false,iD 1,iD 1,.bool false,.bool true,.bool true]):=hf;exact wr rfl<|wg 3 rfl<|wl rfl hf rfl<|cW<|wg 3 rfl<|wl rfl (ia (by omega)) rfl<|dC<|wl rfl hw rfl<|wt rfl rfl
  ·have hf:Rn F X 19 0 [bD 10] (·=[.bool false,.bool false,iD 0,iD 0,.bool false,.bool false,.bool true]):=hf;exact wr rfl<|wg 3 rfl<|wl rfl hf rfl<|cW<|wl rfl hw rfl<|wt rfl rfl
 exact key kind rfl
theorem aT2{s:St}(hs:mj s):Rn F X 33 0 [.ptr (St.s s) 0] (·=[.bool true]):=by
 have hw:=bo8 (X:=X) hs;obtain⟨kind,name,bV,bg,th,el⟩:=s;have hf:=X7 (X:=X) hs.k1 hs.wh;have k1:=hs.k1;have wh:=hs.wh;have ia:=hs.nm;have sS:=hs.hn;have US:=hs.ln;have kJ:=hs.thn;have fH:=hs.eln;have hl:=jf bg;have:kind=1∨kind=2∨kind=3∨kind=4∨kind=5∨kind=6∨kind=7∨kind=8∨kind=9∨kind=10:=by omega
 rcases this with rfl|rfl|rfl|rfl|rfl|rfl|rfl|rfl|rfl|rfl
 ·obtain rfl:bV=[]:=by rcases sS with⟨h,_⟩|⟨_,h⟩;omega;exact h
  obtain rfl:th=[]:=by rcases kJ with h|h|h;omega;omega;exact h
  obtain rfl:el=[]:=by rcases fH with h|h|h|h;omega;omega;omega;exact h
  have hf:Rn F X 19 0 [bD 1] (·=[.bool true,.bool false,iD 1,iD 1,.bool false,.bool false,.bool true]):=hf;exact wr rfl<|wg 3 rfl<|wl rfl hf rfl<|cW<|wg 3 rfl<|wo rfl bl<|dC<|wn rfl af<|wn rfl ch<|wg 5 rfl<|fJ<|wg 2 rfl<|wo rfl bl<|wg 2 rfl<|om<|wg 2 rfl<|wo rfl bl<|wg 1 rfl<|wl rfl hw rfl<|io<|wt rfl rfl
 ·obtain rfl:bV=[]:=by rcases sS with⟨h,_⟩|⟨_,h⟩;omega;exact h
  obtain rfl:th=[]:=by rcases kJ with h|h|h;omega;omega;exact h
  obtain rfl:el=[]:=by rcases fH with h|h|h|h;omega;omega;omega;exact h
  have hf:Rn F X 19 0 [bD 2] (·=[.bool true,.bool false,iD 2,iD 2,.bool false,.bool false,.bool true]):=hf;exact wr rfl<|wg 3 rfl<|wl rfl hf rfl<|cW<|wg 3 rfl<|wo rfl bl<|dC<|wn rfl af<|wn rfl ch<|wg 5 rfl<|fJ<|wg 2 rfl<|wo rfl bl<|wg 2 rfl<|om<|wg 2 rfl<|wo rfl bl<|wg 1 rfl<|wl rfl hw rfl<|io<|wt rfl rfl
 ·obtain rfl:bV=[]:=by rcases sS with⟨h,_⟩|⟨_,h⟩;omega;exact h
  obtain rfl:th=[]:=by rcases kJ with h|h|h;omega;omega;exact h
  obtain rfl:el=[]:=by rcases fH with h|h|h|h;omega;omega;omega;exact h
  have hf:Rn F X 19 0 [bD 3] (·=[.bool true,.bool false,iD 1,iD 1,.bool false,.bool false,.bool true]):=hf;exact wr rfl<|wg 3 rfl<|wl rfl hf rfl<|cW<|wg 3 rfl<|wo rfl bl<|dC<|wn rfl af<|wn rfl ch<|wg 5 rfl<|fJ<|wg 2 rfl<|wo rfl bl<|wg 2 rfl<|om<|wg 2 rfl<|wo rfl bl<|wg 1 rfl<|wl rfl hw rfl<|io<|wt rfl rfl
 ·obtain rfl:name=[]:=by rcases ia with⟨h,_⟩|⟨_,h⟩;omega;exact h
  obtain rfl:bV=[]:=by rcases sS with⟨h,_⟩|⟨_,h⟩;omega;exact h
  have hf:Rn F X 19 0 [bD 4] (·=[.bool false,.bool false,iD 1,iD 1,.bool true,.bool true,.bool true]):=hf;exact wr rfl<|wg 3 rfl<|wl rfl hf rfl<|cW<|wg 3 rfl<|wo rfl bl<|dC<|wn rfl af<|wn rfl ch<|wg 5 rfl<|fJ<|wg 3 rfl<|wl rfl hw rfl<|wt rfl rfl
 ·obtain rfl:name=[]:=by rcases ia with⟨h,_⟩|⟨_,h⟩;omega;exact h
  obtain rfl:bV=[]:=by rcases sS with⟨h,_⟩|⟨_,h⟩;omega;exact h
  obtain rfl:el=[]:=by rcases fH with h|h|h|h;omega;omega;omega;exact h
  have hf:Rn F X 19 0 [bD 5] (·=[.bool false,.bool false,iD 1,iD 1,.bool true,.bool false,.bool true]):=hf;exact wr rfl<|wg 3 rfl<|wl rfl hf rfl<|cW<|wg 3 rfl<|wo rfl bl<|dC<|wn rfl af<|wn rfl ch<|wg 5 rfl<|fJ<|wg 5 rfl<|om<|wg 1 rfl<|wo rfl bl<|wg 1 rfl<|wl rfl hw rfl<|wt rfl rfl
 ·obtain rfl:th=[]:=by rcases kJ with h|h|h;omega;omega;exact h
  obtain rfl:el=[]:=by rcases fH with h|h|h|h;omega;omega;omega;exact h
  have hf:Rn F X 19 0 [bD 6] (·=[.bool true,.bool true,iD 0,iD 4,.bool false,.bool false,.bool true]):=hf;exact wr rfl<|wg 3 rfl<|wl rfl hf rfl<|cW<|wg 3 rfl<|wo rfl bl<|dC<|wn rfl af<|wn rfl ch<|wg 3 rfl<|wo rfl bl<|fJ<|wg 4 rfl<|wo rfl bl<|om<|wg 1 rfl<|wl rfl hw rfl<|wt rfl rfl
 ·obtain rfl:name=[]:=by rcases ia with⟨h,_⟩|⟨_,h⟩;omega;exact h
  obtain rfl:th=[]:=by rcases kJ with h|h|h;omega;omega;exact h
  obtain rfl:el=[]:=by rcases fH with h|h|h|h;omega;omega;omega;exact h
  have hf:Rn F X 19 0 [bD 7] (·=[.bool false,.bool true,iD 1,iD 5,.bool false,.bool false,.bool true]):=hf;exact wr rfl<|wg 3 rfl<|wl rfl hf rfl<|cW<|wg 3 rfl<|wo rfl bl<|dC<|wn rfl af<|wn rfl ch<|wg 5 rfl<|fJ<|wg 2 rfl<|wo rfl bl<|wg 2 rfl<|om<|wg 2 rfl<|wo rfl bl<|wg 1 rfl<|wl rfl hw rfl<|io<|wt rfl rfl
 ·obtain rfl:name=[]:=by rcases ia with⟨h,_⟩|⟨_,h⟩;omega;exact h
  obtain rfl:bV=[]:=by rcases sS with⟨h,_⟩|⟨_,h⟩;omega;exact h
  obtain rfl:th=[]:=by rcases kJ with h|h|h;omega;omega;exact h
  have hf:Rn F X 19 0 [bD 8] (·=[.bool false,.bool false,iD 2,iD 2,.bool false,.bool true,.bool true]):=hf;exact wr rfl<|wg 3 rfl<|wl rfl hf rfl<|cW<|wg 3 rfl<|wo rfl bl<|dC<|wn rfl af<|wn rfl ch<|wg 5 rfl<|fJ<|wg 5 rfl<|om<|wg 1 rfl<|wo rfl bl<|wg 1 rfl<|wl rfl hw rfl<|wt rfl rfl
 ·obtain rfl:bV=[]:=by rcases sS with⟨h,_⟩|⟨_,h⟩;omega;exact h
  obtain rfl:th=[]:=by rcases kJ with h|h|h;omega;omega;exact h
  have hf:Rn F X 19 0 [bD 9] (·=[.bool true,.bool false,iD 1,iD 1,.bool false,.bool true,.bool true]):=hf;exact wr rfl<|wg 3 rfl<|wl rfl hf rfl<|cW<|wg 3 rfl<|wo rfl bl<|dC<|wn rfl af<|wn rfl ch<|wg 5 rfl<|fJ<|wg 2 rfl<|wo rfl bl<|wg 1 rfl<|wl rfl hw rfl<|om<|wt rfl rfl
 ·obtain rfl:name=[]:=by rcases ia with⟨h,_⟩|⟨_,h⟩;omega;exact h
  obtain rfl:bV=[]:=by rcases sS with⟨h,_⟩|⟨_,h⟩;omega;exact h
  obtain rfl:th=[]:=by rcases kJ with h|h|h;omega;omega;exact h
  obtain rfl:el=[]:=by rcases fH with h|h|h|h;omega;omega;omega;exact h
  have hf:Rn F X 19 0 [bD 10] (·=[.bool false,.bool false,iD 0,iD 0,.bool false,.bool false,.bool true]):=hf;exact wr rfl<|wg 3 rfl<|wl rfl hf rfl<|cW<|wg 3 rfl<|wo rfl bl<|dC<|wn rfl af<|wn rfl ch<|wg 5 rfl<|fJ<|wg 5 rfl<|om<|wg 1 rfl<|wo rfl bl<|wg 3 rfl<|io<|wg 1 rfl<|wo rfl bl<|wg 1 rfl<|wl rfl hw rfl<|wt rfl rfl
theorem bI6{l:List St}(hl:l.length≤12)(h:∀s∈l,gO mj s):Rn F X 24 0 [.sl (St.ss l)] (·=[.bool true]):=by
 refine gO.list (P:=fun l=>Rn F X 24 0 [.sl (St.ss l)] (·=[.bool true])) ?_ hl h;clear hl h l;intro l hl h;have loop:∀(ae pre:List St),l=pre++ae→Rn F X 24 1 [.sl (St.ss l),jD l.length,jD pre.length] (·=[.bool true]):=by
  intro ae
  induction ae with
  |nil=>
   intro pre hp;rw[xj] at hp;subst hp;exact wr rfl<|wn rfl af<|wt rfl rfl
  |cons a ae cZ=>
   intro pre hp;have aF:=bj hp;have aq:(St.ss l)[pre.length]? =some (St.s a):=by rw[hp];exact xW _ _ _
   obtain⟨ha,hs⟩:=h a (by rw[hp];simp);have hg:=bA9 (X:=X) ha;have:=cZ (pre++[a]) (by rw[hp,aV]);rw[xa] at this;obtain⟨kind,name,bV,bg,th,el⟩:=a;obtain⟨ec,eJ⟩:=hs;exact wr rfl<|wy rfl af<|wo rfl (aA aq rfl)<|wl rfl hg rfl<|wg 2 rfl<|w7<|wg 1 rfl<|wl rfl ec rfl<|wg 2 rfl<|cW<|wg 1 rfl<|wl rfl eJ rfl<|wo rfl oA<|wj this
 exact wr rfl<|wo rfl (az (lR _))<|wj (loop l [] rfl)
theorem bI5(hX:lO X){l:List St}(hl:l.length≤12)(h:∀s∈l,gO mj s):Rn F X 25 0 [.sl (St.ss l)] (·=[.bool true]):=by
 refine gO.list (P:=fun l=>Rn F X 25 0 [.sl (St.ss l)] (·=[.bool true])) ?_ hl h;clear hl h l;intro l hl h;have loop:∀(ae pre:List St),l=pre++ae→Rn F X 25 1 [.sl (St.ss l),jD l.length,jD pre.length] (·=[.bool true]):=by
  intro ae
  induction ae with
  |nil=>
   intro pre hp;rw[xj] at hp;subst hp;exact wr rfl<|wn rfl af<|wt rfl rfl
  |cons a ae cZ=>
   intro pre hp;have aF:=bj hp;have aq:(St.ss l)[pre.length]? =some (St.s a):=by rw[hp];exact xW _ _ _
   obtain⟨ha,hs⟩:=h a (by rw[hp];simp);have hg:=aT8 (X:=X) hX ha;have:=cZ (pre++[a]) (by rw[hp,aV]);rw[xa] at this;obtain⟨kind,name,bV,bg,th,el⟩:=a;obtain⟨ec,eJ⟩:=hs;exact wr rfl<|wy rfl af<|wo rfl (aA aq rfl)<|wl rfl hg rfl<|wg 2 rfl<|w7<|wg 1 rfl<|wl rfl ec rfl<|wg 2 rfl<|cW<|wg 1 rfl<|wl rfl eJ rfl<|wo rfl oA<|wj this
 exact wr rfl<|wo rfl (az (lR _))<|wj (loop l [] rfl)
theorem bI4{l:List St}(hl:l.length≤12)(h:∀s∈l,gO mj s):Rn F X 26 0 [.sl (St.ss l)] (·=[.bool true]):=by
 refine gO.list (P:=fun l=>Rn F X 26 0 [.sl (St.ss l)] (·=[.bool true])) ?_ hl h;clear hl h l;intro l hl h;have loop:∀(ae pre:List St),l=pre++ae→Rn F X 26 1 [.sl (St.ss l),jD l.length,jD pre.length] (·=[.bool true]):=by
  intro ae
  induction ae with
  |nil=>
   intro pre hp;rw[xj] at hp;subst hp;exact wr rfl<|wn rfl af<|wt rfl rfl
  |cons a ae cZ=>
   intro pre hp;have aF:=bj hp;have aq:(St.ss l)[pre.length]? =some (St.s a):=by rw[hp];exact xW _ _ _
   obtain⟨ha,hs⟩:=h a (by rw[hp];simp);have hg:=aT2 (X:=X) ha;have:=cZ (pre++[a]) (by rw[hp,aV]);rw[xa] at this;obtain⟨kind,name,bV,bg,th,el⟩:=a;obtain⟨ec,eJ⟩:=hs;exact wr rfl<|wy rfl af<|wo rfl (aA aq rfl)<|wl rfl hg rfl<|wg 2 rfl<|w7<|wg 1 rfl<|wl rfl ec rfl<|wg 2 rfl<|cW<|wg 1 rfl<|wl rfl eJ rfl<|wo rfl oA<|wj this
 exact wr rfl<|wo rfl (az (lR _))<|wj (loop l [] rfl)
end
section
variable{X:Nat→List D→Option (List D)}
theorem aS6(hX:lO X){h:Hn}(hh:BJ h):Rn F X 35 0 h.s (·=[.bool true]):=by
 obtain⟨name,params,body⟩:=h;have hp:params.length≤2:=hh.params.1;have uF:St.ns body≤12:=hh.n;have hd:St.dU body≤4:=hh.dp;have c1:=bg9 (X:=X) 12 body uF (xk _);have c2:=bl8 (X:=X) 12 body uF (xk _) (by omega);have c3:=bI6 (X:=X) hh.len hh.body;have fX:(strs params).length=params.length:=xm _;show Rn F X 35 0 [.str name,.sl (strs params),.sl (St.ss body)] _;exact wr rfl<|wo rfl bl<|wn rfl ch<|wl rfl c1 rfl<|wn rfl ch<|wl rfl c2 rfl<|wn rfl ch<|wl rfl c3 rfl<|w7<|wt rfl rfl
theorem aS7(hX:lO X){h:Hn}(hh:BJ h):Rn F X 36 0 h.s (·=[.bool true]):=by
 obtain⟨name,params,body⟩:=h;have hp:params.length≤2:=hh.params.1;have hn:=hX.name name hh.name;have c3:=bI5 hX hh.len hh.body;have fX:(strs params).length=params.length:=xm _;have loop:∀(ae pre:List aL),params=pre++ae→Rn F X 36 1 [.sl (strs params),jD params.length,jD pre.length,.str name,.sl (St.ss body)] (·=[.bool true]):=by
  intro ae
  induction ae with
  |nil=>
   intro pre hp;rw[xj] at hp;subst hp;exact wr rfl<|wn rfl af<|wl rfl c3 rfl<|wt rfl rfl
  |cons a ae cZ=>
   intro pre aH;have aF:=bj aH;have aq:(strs params)[pre.length]? =some [.str a]:=bR (f:=fun p:aL=>[D.str p]) aH;have ha:=hX.name a (hh.params.2 a (by show a∈params;rw[aH];simp));have:=cZ (pre++[a]) (by rw[aH,aV]);rw[xa] at this;exact wr rfl<|wy rfl af<|wo rfl (aA aq rfl)<|wg 1 rfl<|wl rfl ha rfl<|wo rfl oA<|w9<|wj this
 exact wr rfl<|wl rfl hn rfl<|wo rfl (az fX)<|wj (loop params [] rfl)
theorem aS4(hX:lO X){h:Hn}(hh:BJ h):Rn F X 37 0 h.s (·=[.bool true]):=by
 obtain⟨name,params,body⟩:=h;have c3:=bI4 (X:=X) hh.len hh.body;exact wr rfl<|wl rfl c3 rfl<|wt rfl rfl
theorem aU4{v:Vr}(hv:VrS v):Rn F X 38 0 v.s (·=[.bool true]):=by
 obtain⟨name,type,init⟩:=v;have ht:=hv.type;simp only at ht;rcases ht with⟨rfl,h⟩|⟨rfl|rfl,rfl⟩
 ·exact wr rfl<|wg 1 rfl<|wy rfl ew<|wt rfl rfl
 ·exact wr rfl<|wg 3 rfl<|wt rfl rfl
 ·exact wr rfl<|wg 4 rfl<|wt rfl rfl
theorem bu8(hX:lO X){f:dK}(hf:tf f):Rn F X 27 0 f.s (·=[.bool true]):=by
 obtain⟨nm,fl,lk,cs⟩:=f;have pX:cs.length≤3:=hf.comps.2.1;have loop:∀(ae pre:List Cm),cs=pre++ae→Rn F X 27 1 [.sl (cs.map Cm.s),jD cs.length,jD pre.length] (·=[.bool true]):=by
  intro ae
  induction ae with
  |nil=>
   intro pre hp;rw[xj] at hp;subst hp;exact wr rfl<|wn rfl af<|wt rfl rfl
  |cons c ae ih=>
   intro pre hp;have aF:=bj hp;have aq:=bR (f:=Cm.s) hp;have bZ:=hf.comps.2.2 c (by show c∈cs;rw[hp];simp);have next:=ih (pre++[c]) (by rw[hp,aV]);rw[xa] at next;obtain⟨cn,vars,vs⟩:=c;have cx:vs.length≤2:=bZ.vs.2;have j5:∀(dt bB:List (List Hn)),vs=bB++dt→Rn F X 27 2 [.sl (cs.map Cm.s),jD cs.length,jD pre.length,.sl (cr vs),jD vs.length,jD bB.length] (·=[.bool true]):=by
    intro dt
    induction dt with
    |nil=>
     intro bB bf;rw[xj] at bf;subst bf;exact wr rfl<|wn rfl af<|wo rfl oA<|wj next
    |cons v dt eB=>
     intro bB bf;have vz:=bj bf;have kE:(cr vs)[bB.length]? =some [.sl (v.map Hn.s)]:=bR (f:=fun l:List Hn=>[D.sl (l.map Hn.s)]) bf;have ii:=eB (bB++[v]) (by rw[bf,aV]);rw[xa] at ii;have hv:=bZ.hs v (by show v∈vs;rw[bf];simp);have mN:=hv.1;have lh:∀(dA bp:List Hn),v=bp++dA→Rn F X 27 3 [.sl (cs.map Cm.s),jD cs.length,jD pre.length,.sl (cr vs),jD vs.length,jD bB.length,.sl (v.map Hn.s),jD v.length,jD bp.length] (·=[.bool true]):=by
      intro dA
      induction dA with
      |nil=>
       intro bp bA;rw[xj] at bA;subst bA;exact wr rfl<|wn rfl af<|wo rfl oA<|wj ii
      |cons h dA lJ=>
       intro bp bA;have vw:=bj bA;have gf:=bR (f:=Hn.s) bA;have fe:=lJ (bp++[h]) (by rw[bA,aV]);rw[xa] at fe;have hh:=hv.2 h (by rw[bA];simp);have hg:=aS6 hX hh;obtain⟨hn,lK,Er⟩:=h;exact wr rfl<|wy rfl af<|wo rfl (aA gf rfl)<|wg 1 rfl<|jq<|wl rfl hg rfl<|wo rfl oA<|wj fe
     exact wr rfl<|wy rfl af<|wo rfl (aA kE rfl)<|wg 1 rfl<|w8<|wo rfl (az (bW _ _))<|wj (lh v [] rfl)
   exact wr rfl<|wy rfl af<|wo rfl (aA aq rfl)<|wg 1 rfl<|w7<|wo rfl (az (bW _ _))<|wj (j5 vs [] rfl)
 exact wr rfl<|wo rfl (az (bW _ _))<|wj (loop cs [] rfl)
theorem bu7(hX:lO X){f:dK}(hf:tf f):Rn F X 28 0 f.s (·=[.bool true]):=by
 obtain⟨nm,fl,lk,cs⟩:=f;have pX:cs.length≤3:=hf.comps.2.1;have loop:∀(ae pre:List Cm),cs=pre++ae→Rn F X 28 1 [.sl (cs.map Cm.s),jD cs.length,jD pre.length] (·=[.bool true]):=by
  intro ae
  induction ae with
  |nil=>
   intro pre hp;rw[xj] at hp;subst hp;exact wr rfl<|wn rfl af<|wt rfl rfl
  |cons c ae ih=>
   intro pre hp;have aF:=bj hp;have aq:=bR (f:=Cm.s) hp;have bZ:=hf.comps.2.2 c (by show c∈cs;rw[hp];simp);have next:=ih (pre++[c]) (by rw[hp,aV]);rw[xa] at next;obtain⟨cn,vars,vs⟩:=c;have cx:vs.length≤2:=bZ.vs.2;have j5:∀(dt bB:List (List Hn)),vs=bB++dt→Rn F X 28 2 [.sl (cs.map Cm.s),jD cs.length,jD pre.length,.sl (cr vs),jD vs.length,jD bB.length] (·=[.bool true]):=by
    intro dt
    induction dt with
    |nil=>
     intro bB bf;rw[xj] at bf;subst bf;exact wr rfl<|wn rfl af<|wo rfl oA<|wj next
    |cons v dt eB=>
     intro bB bf;have vz:=bj bf;have kE:(cr vs)[bB.length]? =some [.sl (v.map Hn.s)]:=bR (f:=fun l:List Hn=>[D.sl (l.map Hn.s)]) bf;have ii:=eB (bB++[v]) (by rw[bf,aV]);rw[xa] at ii;have hv:=bZ.hs v (by show v∈vs;rw[bf];simp);have mN:=hv.1;have lh:∀(dA bp:List Hn),v=bp++dA→Rn F X 28 3 [.sl (cs.map Cm.s),jD cs.length,jD pre.length,.sl (cr vs),jD vs.length,jD bB.length,.sl (v.map Hn.s),jD v.length,jD bp.length] (·=[.bool true]):=by
      intro dA
      induction dA with
      |nil=>
       intro bp bA;rw[xj] at bA;subst bA;exact wr rfl<|wn rfl af<|wo rfl oA<|wj ii
      |cons h dA lJ=>
       intro bp bA;have vw:=bj bA;have gf:=bR (f:=Hn.s) bA;have fe:=lJ (bp++[h]) (by rw[bA,aV]);rw[xa] at fe;have hh:=hv.2 h (by rw[bA];simp);have hg:=aS7 hX hh;obtain⟨hn,lK,Er⟩:=h;exact wr rfl<|wy rfl af<|wo rfl (aA gf rfl)<|wg 1 rfl<|jq<|wl rfl hg rfl<|wo rfl oA<|wj fe
     exact wr rfl<|wy rfl af<|wo rfl (aA kE rfl)<|wg 1 rfl<|w8<|wo rfl (az (bW _ _))<|wj (lh v [] rfl)
   exact wr rfl<|wy rfl af<|wo rfl (aA aq rfl)<|wg 1 rfl<|w7<|wo rfl (az (bW _ _))<|wj (j5 vs [] rfl)
 exact wr rfl<|wo rfl (az (bW _ _))<|wj (loop cs [] rfl)
theorem bu6(hX:lO X){f:dK}(hf:tf f):Rn F X 29 0 f.s (·=[.bool true]):=by
 obtain⟨nm,fl,lk,cs⟩:=f;have pX:cs.length≤3:=hf.comps.2.1;have loop:∀(ae pre:List Cm),cs=pre++ae→Rn F X 29 1 [.sl (cs.map Cm.s),jD cs.length,jD pre.length] (·=[.bool true]):=by
  intro ae
  induction ae with
  |nil=>
   intro pre hp;rw[xj] at hp;subst hp;exact wr rfl<|wn rfl af<|wt rfl rfl
  |cons c ae ih=>
   intro pre hp;have aF:=bj hp;have aq:=bR (f:=Cm.s) hp;have bZ:=hf.comps.2.2 c (by show c∈cs;rw[hp];simp);have next:=ih (pre++[c]) (by rw[hp,aV]);rw[xa] at next;obtain⟨cn,vars,vs⟩:=c;have cx:vs.length≤2:=bZ.vs.2;have j5:∀(dt bB:List (List Hn)),vs=bB++dt→Rn F X 29 2 [.sl (cs.map Cm.s),jD cs.length,jD pre.length,.sl (cr vs),jD vs.length,jD bB.length] (·=[.bool true]):=by
    intro dt
    induction dt with
    |nil=>
     intro bB bf;rw[xj] at bf;subst bf;exact wr rfl<|wn rfl af<|wo rfl oA<|wj next
    |cons v dt eB=>
     intro bB bf;have vz:=bj bf;have kE:(cr vs)[bB.length]? =some [.sl (v.map Hn.s)]:=bR (f:=fun l:List Hn=>[D.sl (l.map Hn.s)]) bf;have ii:=eB (bB++[v]) (by rw[bf,aV]);rw[xa] at ii;have hv:=bZ.hs v (by show v∈vs;rw[bf];simp);have mN:=hv.1;have lh:∀(dA bp:List Hn),v=bp++dA→Rn F X 29 3 [.sl (cs.map Cm.s),jD cs.length,jD pre.length,.sl (cr vs),jD vs.length,jD bB.length,.sl (v.map Hn.s),jD v.length,jD bp.length] (·=[.bool true]):=by
      intro dA
      induction dA with
      |nil=>
       intro bp bA;rw[xj] at bA;subst bA;exact wr rfl<|wn rfl af<|wo rfl oA<|wj ii
      |cons h dA lJ=>
       intro bp bA;have vw:=bj bA;have gf:=bR (f:=Hn.s) bA;have fe:=lJ (bp++[h]) (by rw[bA,aV]);rw[xa] at fe;have hh:=hv.2 h (by rw[bA];simp);have hg:=aS4 hX hh;obtain⟨hn,lK,Er⟩:=h;exact wr rfl<|wy rfl af<|wo rfl (aA gf rfl)<|wg 1 rfl<|jq<|wl rfl hg rfl<|wo rfl oA<|wj fe
     exact wr rfl<|wy rfl af<|wo rfl (aA kE rfl)<|wg 1 rfl<|w8<|wo rfl (az (bW _ _))<|wj (lh v [] rfl)
   exact wr rfl<|wy rfl af<|wo rfl (aA aq rfl)<|wg 1 rfl<|w7<|wo rfl (az (bW _ _))<|wj (j5 vs [] rfl)
 exact wr rfl<|wo rfl (az (bW _ _))<|wj (loop cs [] rfl)
theorem bd3(hX:lO X){f:dK}(hf:tf f):Rn F X 40 0 f.s (·=[.bool true]):=by
 have hE:=bu6 hX hf;obtain⟨nm,fl,lk,cs⟩:=f;have hE:Rn F X 29 0 [.str nm,.sl (fl.map Fg.d),.sl (lk.map Lk.d),.sl (cs.map Cm.s)] (·=[.bool true]):=hE;have H3:lk.length≤9:=hf.links.1;have pX:cs.length≤3:=hf.comps.2.1;have GX:∀(ae pre:List Cm),cs=pre++ae→Rn F X 40 2 [.sl (cs.map Cm.s),jD cs.length,jD pre.length,.str nm,.sl (fl.map Fg.d),.sl (lk.map Lk.d)] (·=[.bool true]):=by
  intro ae
  induction ae with
  |nil=>
   intro pre hp;rw[xj] at hp;subst hp;exact wr rfl<|wn rfl af<|wl rfl hE rfl<|wt rfl rfl
  |cons c ae ih=>
   intro pre hp;have aF:=bj hp;have aq:=bR (f:=Cm.s) hp;have bZ:=hf.comps.2.2 c (by show c∈cs;rw[hp];simp);have next:=ih (pre++[c]) (by rw[hp,aV]);rw[xa] at next;obtain⟨cn,vars,vs⟩:=c;have UC:vars.length≤5:=bZ.vars.1;have j5:∀(dt bB:List Vr),vars=bB++dt→Rn F X 40 3 [.sl (cs.map Cm.s),jD cs.length,jD pre.length,.sl (vars.map Vr.s),jD vars.length,jD bB.length,.str nm,.sl (fl.map Fg.d),.sl (lk.map Lk.d)] (·=[.bool true]):=by
    intro dt
    induction dt with
    |nil=>
     intro bB bf;rw[xj] at bf;subst bf;exact wr rfl<|wn rfl af<|wo rfl oA<|wj next
    |cons v dt eB=>
     intro bB bf;have vz:=bj bf;have kE:=bR (f:=Vr.s) bf;have ii:=eB (bB++[v]) (by rw[bf,aV]);rw[xa] at ii;have hg:=aU4 (X:=X) (bZ.vars.2 v (by show v∈vars;rw[bf];simp));obtain⟨v1,v2,v3⟩:=v;exact wr rfl<|wy rfl af<|wo rfl (aA kE rfl)<|wg 1 rfl<|jq<|wl rfl hg rfl<|wo rfl oA<|wj ii
   exact wr rfl<|wy rfl af<|wo rfl (aA aq rfl)<|wg 1 rfl<|mK<|wo rfl (az (bW _ _))<|wj (j5 vars [] rfl)
 have Aa:∀(ae pre:List Lk),lk=pre++ae→Rn F X 40 1 [.sl (lk.map Lk.d),jD lk.length,jD pre.length,.str nm,.sl (fl.map Fg.d),.sl (cs.map Cm.s)] (·=[.bool true]):=by
  intro ae
  induction ae with
  |nil=>
   intro pre hp;rw[xj] at hp;subst hp;exact wr rfl<|wn rfl af<|wo rfl (az (bW _ _))<|wj (GX cs [] rfl)
  |cons v ae ih=>
   intro pre hp;have aF:=bj hp;have aq:=bR (f:=Lk.d) hp;have next:=ih (pre++[v]) (by rw[hp,aV]);rw[xa] at next;have hl:=(hf.links.2 v (by show v∈lk;rw[hp];simp)).zd;obtain⟨a,b,c⟩:=v;simp only at hl;refine wr rfl<|wy rfl af<|wo rfl (aA aq rfl)<|wg 1 rfl ?_;dsimp only [dS,Ex.r,St.r,List.cons_append,List.nil_append,jT,jS,jR,jQ,jP,Lk.d];exact wn rfl af<|wn rfl ch<|wo rfl oA<|wj next
 exact wr rfl<|wo rfl (az (bW _ _))<|wj (Aa lk [] rfl)
theorem bj2(hX:lO X){f:dK}(hf:tf f):Rn F X 39 0 f.s (·=[.bool true]):=by
 have hE:=bu7 hX hf;obtain⟨nm,fl,lk,cs⟩:=f;have hE:Rn F X 28 0 [.str nm,.sl (fl.map Fg.d),.sl (lk.map Lk.d),.sl (cs.map Cm.s)] (·=[.bool true]):=hE;have H3:lk.length≤9:=hf.links.1;have H':fl.length≤2:=hf.flags.1;have pX:cs.length≤3:=hf.comps.2.1;have Av:=hX.name nm hf.name;have GX:∀(ae pre:List Cm),cs=pre++ae→Rn F X 39 5 [.sl (cs.map Cm.s),jD cs.length,jD pre.length,.str nm,.sl (fl.map Fg.d),.sl (lk.map Lk.d)] (·=[.bool true]):=by
  intro ae
  induction ae with
  |nil=>
   intro pre hp;rw[xj] at hp;subst hp;exact wr rfl<|wn rfl af<|wl rfl hE rfl<|wt rfl rfl
  |cons c ae ih=>
   intro pre hp;have aF:=bj hp;have aq:=bR (f:=Cm.s) hp;have bZ:=hf.comps.2.2 c (by show c∈cs;rw[hp];simp);have next:=ih (pre++[c]) (by rw[hp,aV]);rw[xa] at next;have Bo:=hX.name c.name bZ.name;obtain⟨cn,vars,vs⟩:=c;have UC:vars.length≤5:=bZ.vars.1;have j5:∀(dt bB:List Vr),vars=bB++dt→Rn F X 39 7 [.sl (cs.map Cm.s),jD cs.length,jD pre.length,.sl (vars.map Vr.s),jD vars.length,jD bB.length,.str nm,.sl (fl.map Fg.d),.sl (lk.map Lk.d)] (·=[.bool true]):=by
    intro dt
    induction dt with
    |nil=>
     intro bB bf;rw[xj] at bf;subst bf;exact wr rfl<|wn rfl af<|wo rfl oA<|wj next
    |cons v dt eB=>
     intro bB bf;have vz:=bj bf;have kE:=bR (f:=Vr.s) bf;have ii:=eB (bB++[v]) (by rw[bf,aV]);rw[xa] at ii;have hg:=hX.name v.name (bZ.vars.2 v (by show v∈vars;rw[bf];simp)).name;obtain⟨v1,v2,v3⟩:=v;exact wr rfl<|wy rfl af<|wo rfl (aA kE rfl)<|wg 1 rfl<|jq<|wl rfl hg rfl<|wo rfl oA<|wj ii
   exact wr rfl<|wy rfl af<|wo rfl (aA aq rfl)<|wg 1 rfl<|mK<|wl rfl Bo rfl<|wo rfl (az (bW _ _))<|wj (j5 vars [] rfl)
 have Aa:∀(ae pre:List Lk),lk=pre++ae→Rn F X 39 3 [.sl (lk.map Lk.d),jD lk.length,jD pre.length,.str nm,.sl (fl.map Fg.d),.sl (cs.map Cm.s)] (·=[.bool true]):=by
  intro ae
  induction ae with
  |nil=>
   intro pre hp;rw[xj] at hp;subst hp;exact wr rfl<|wn rfl af<|wo rfl (az (bW _ _))<|wj (GX cs [] rfl)
  |cons v ae ih=>
   intro pre hp;have aF:=bj hp;have aq:=bR (f:=Lk.d) hp;have next:=ih (pre++[v]) (by rw[hp,aV]);rw[xa] at next;have hl:=hf.links.2 v (by show v∈lk;rw[hp];simp);have g1:=hX.name v.src hl.src;have g2:=hX.name v.dst hl.dst;obtain⟨a,b,c⟩:=v;exact wr rfl<|wy rfl af<|wo rfl (aA aq rfl)<|wg 1 rfl<|mK<|wl rfl g1 rfl<|wl rfl g2 rfl<|wo rfl oA<|wj next
 have Aw:∀(ae pre:List Fg),fl=pre++ae→Rn F X 39 1 [.sl (fl.map Fg.d),jD fl.length,jD pre.length,.str nm,.sl (lk.map Lk.d),.sl (cs.map Cm.s)] (·=[.bool true]):=by
  intro ae
  induction ae with
  |nil=>
   intro pre hp;rw[xj] at hp;subst hp;exact wr rfl<|wn rfl af<|wo rfl (az (bW _ _))<|wj (Aa lk [] rfl)
  |cons v ae ih=>
   intro pre hp;have aF:=bj hp;have aq:=bR (f:=Fg.d) hp;have next:=ih (pre++[v]) (by rw[hp,aV]);rw[xa] at next;have g1:=hX.name v.name (hf.flags.2 v (by show v∈fl;rw[hp];simp));obtain⟨a,b⟩:=v;cases b
   ·exact wr rfl<|wy rfl af<|wo rfl (aA aq rfl)<|wg 2 rfl<|w9<|wl rfl g1 rfl<|wo rfl oA<|wj next
   ·exact wr rfl<|wy rfl af<|wo rfl (aA aq rfl)<|wg 1 rfl<|w9<|wl rfl g1 rfl<|wo rfl oA<|wj next
 exact wr rfl<|wl rfl Av rfl<|wo rfl (az (bW _ _))<|wj (Aw fl [] rfl)
end
end Go.Proofs.YtnjdjocokegphaaGreatDoor
