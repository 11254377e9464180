/- What these functions answer. -/
import Derived.Test.YtaginlnifpbfgaaGreatDoorP4
set_option linter.unusedVariables false
set_option linter.unusedSimpArgs false
set_option maxHeartbeats 4000000
set_option maxRecDepth 100000
namespace Go.Fl
open Go.Ex
mutual
def Ex.sz:Ex→Nat| .mk _ _ _ args=>Ex.jh args+1
def Ex.jh:List Ex→Nat|[]=>0|e::l=>Ex.sz e+Ex.jh l
end
theorem Ex.VI:∀(l:List Ex) (a:Ex),Ex.jh (l++[a])=Ex.jh l+a.sz
 |[],a=>by simp[Ex.jh]
 |e::l,a=>by simp only [List.cons_append,Ex.jh,Ex.VI l a];omega
theorem kN.sz{e:Ex}(h:kN jb e):e.sz+1≤2^e.dp:=by
 induction h with
 | @mk op name n args hn ha ih=>
  obtain⟨h1,h2,h3,h4,h5⟩:=hn.get;have eE:args.length≤2:=by rw[h3];unfold ku;split<;>(try split)<;>omega
  have hd:∀a∈args,a.sz+1≤2^Ex.dZ args:=fun a ha=>xH (ih a ha) (Nat.pow_le_pow_right (by omega) (Ex.Pw ha))
  have h1:1≤2^Ex.dZ args:=Nat.one_le_two_pow;simp only [Ex.sz,Ex.dp,Nat.pow_succ]
  match args,eE,hd with
  |[],_,_=>simp only [Ex.jh];omega
  |[a],_,hd=>have:=hd a (by simp);simp only [Ex.jh];omega
  |[a,b],_,hd=>have:=hd a (by simp);have:=hd b (by simp);simp only [Ex.jh];omega
theorem kN.sz6{e:Ex}(h:kN jb e)(hd:e.dp≤6):e.sz≤63:=by
 have:=h.sz;have:2^e.dp≤2^6:=Nat.pow_le_pow_right (by omega) hd;omega
end Go.Fl
namespace Go.Proofs.YtaginlnifpbfgaaGreatDoor
open Go.Ex Go.RowKit Go.Fl
section
variable{X:Nat→List D→Option (List D)}
theorem bf3{l:List aH}{s:aH}{o:List D}(h:S8 l s o):∃i:Int,o=[.int .i64 i]:=by
 rcases h with⟨_,i,rfl,_⟩|⟨_,rfl⟩
 ·exact⟨i,rfl⟩
 ·exact⟨-1,rfl⟩
theorem qF{l:List aH}(hl:l.length≤1000)(s:aH):Rn F X 43 0 [.sl (strs l),.str s] (fun o=>∃i:Int,o=[.int .i64 i]):=(Dd hl s).mono fun _ h=>bf3 h
theorem tD{c:Nat}{n:Nat}(h:n≤1000000):aU (.bin .sub c) [jD n,.int .i64 1]=some (.int .i64 ((n:Int) - 1)):=tE (by omega) (by omega)
theorem mj{L:Nat}{op a b n:Int}(h0:0≤op∧op≤34)(h2:op≠27∧op≠28∧op≠32∧op≠33)(h3:0≤n∧n≤8):sB L [.int .u8 op,.int .i64 a,.int .i64 b,.int .i64 n]:=by
 obtain⟨k,rfl⟩:=Int.eq_ofNat_of_zero_le h0.1;exact cw4 (by omega) (by omega) h3.1 h3.2
theorem grow{p:Cp}{code:List (List D)}{r:List D}(hc:fO code)(hr:sB code.length r):p6 p code 1 (gC p (code++[r])):=⟨_,rfl,hc.snoc hr,by simp,by simp⟩
theorem aZ2{p:Cp}(hp:p.Ok){code:List (List D)}(hc:fO code)(hl:code.length≤100000)(s:aH):Rn F X 72 0 (gC p code++[.str s]) (p6 p code 1):=by
 obtain⟨f,hs,own,vars,tables,flags,params⟩:=p;refine wr rfl<|wg 1 rfl<|wx rfl (qF hp.p _) fun|_,⟨i1,rfl⟩=>⟨rfl,?_⟩
 refine Wp.bh rfl Bk (fun h=> ?_) (fun h=> ?_)
 ·exact wg 2 rfl<|wo rfl oP<|dJ<|wo rfl (aA (n:=code.length+1) (by simp))<|wo rfl (tD (by omega))<|wt rfl (grow hc (mj (by omega) (by omega) (by omega)))
 ·refine wg 1 rfl<|wx rfl (qF hp.v _) fun|_,⟨i2,rfl⟩=>⟨rfl,?_⟩
  refine Wp.bh rfl Bk (fun h=> ?_) (fun h=> ?_)
  ·exact wg 2 rfl<|dJ<|wo rfl oP<|wo rfl (aA (n:=code.length+1) (by simp))<|wo rfl (tD (by omega))<|wt rfl (grow hc (mj (by omega) (by omega) (by omega)))
  ·refine wg 1 rfl<|wx rfl (qF hp.f _) fun|_,⟨i3,rfl⟩=>⟨rfl,?_⟩
   exact dJ<|wg 2 rfl<|wo rfl oP<|wo rfl (aA (n:=code.length+1) (by simp))<|wo rfl (tD (by omega))<|fZ<|wt rfl (grow hc (mj (by omega) (by omega) (by omega)))
theorem aZ4{p:Cp}(hp:p.Ok){e:Fl.Ex}(h:kN jb e):∀{code:List (List D)},fO code→code.length+e.sz≤100000→Rn F X 73 0 (gC p code++Ex.s e) (p6 p code e.sz):=by
 induction h with
 | @mk op name n args hn ha ih=>
  intro code hc hl;obtain⟨h1,h2,h3,h4,h5⟩:=hn.get;simp only [Ex.sz] at hl⊢;have eE:args.length≤2:=by rw[h3];unfold ku;split<;>(try split)<;>omega
  have fe:Rn F X 74 0 (gC p code++[.sl (Ex.ss args)]) (p6 p code (Ex.jh args)):=by
   have loop:∀(ae pre:List Fl.Ex),args=pre++ae→∀eS,fO eS→code.length≤eS.length→eS.length≤code.length+Ex.jh pre→Rn F X 74 1 ([.sl (Ex.ss args),jD args.length,jD pre.length]++gC p eS) (p6 p code (Ex.jh args)):=by
    intro ae
    induction ae with
    |nil=>
     intro pre aE eS iu q1 q2;rw[xj] at aE;subst aE;obtain⟨f,hs,own,vars,tables,flags,params⟩:=p;exact wr rfl<|nj<|wn rfl ak<|wt rfl ⟨eS,rfl,iu,q1,q2⟩
    |cons a ae dj=>
     intro pre aE eS iu q1 q2;have aC:=bu aE;have ap:(Ex.ss args)[pre.length]? =some (Ex.s a):=by rw[aE];exact tH _ _ _
     have aT:Ex.jh args=Ex.jh pre+(a.sz+Ex.jh ae):=by
      rw[aE];clear aC ap dj q2 aE
      induction pre with
      |nil=>simp[Ex.jh]
      |cons x pre ihp=>simp only [List.cons_append,Ex.jh,ihp];omega
     have c1:=ih a (by rw[aE];simp) (code:=eS) iu (by omega);have next:=dj (pre++[a]) (by rw[aE,bp]);rw[Ex.VI,xa] at next;obtain⟨o1,n1,i1,a1⟩:=a;obtain⟨f,hs,own,vars,tables,flags,params⟩:=p;refine wr rfl<|nj<|wy rfl ak<|wo rfl (aB ap rfl)<|wg 1 rfl<|fZ<|wg 1 rfl<|wx rfl c1 fun|_,⟨bm,rfl,bQ,q3,q4⟩=>⟨rfl,?_⟩
     exact pQ<|wo rfl oA<|Wp.jump rfl (next bm bQ (by omega) (by omega))
   have:=loop args [] rfl code hc (by omega) (by simp[Ex.jh]);obtain⟨f,hs,own,vars,tables,flags,params⟩:=p;exact wr rfl<|wo rfl (aA (jC _))<|wj this
  have fin:∀{bm:List (List D)} {r:List D},fO bm→code.length≤bm.length→bm.length≤code.length+Ex.jh args→sB bm.length r→p6 p code (Ex.jh args+1) (gC p (bm++[r])):=fun h1 h2 h3 h4=>⟨_,rfl,h1.snoc h4,by rw[xa];omega,by rw[xa];show _+1≤_;omega⟩
  have cn:=fun(bm:List (List D)) (h:fO bm) (hl:bm.length≤100000)=>aZ2 (X:=X) hp h hl name
  have hn8:(0:Int)≤n∧(n:Int)≤8:=by omega
  obtain⟨f,hs,own,vars,tables,flags,params⟩:=p;have vv:op=1∨op=2∨op=3∨op=4∨op=5∨op=6∨op=7∨op=8∨9≤op:=by omega
  rcases vv with rfl|rfl|rfl|rfl|rfl|rfl|rfl|rfl|vv
  ·refine wr rfl<|dJ<|wg 1 rfl<|wx rfl fe fun|_,⟨bm,rfl,bQ,q1,q2⟩=>⟨rfl,?_⟩
   exact n6<|wg 3 rfl<|wo rfl oP<|wo rfl (aA (n:=bm.length+1) (by simp))<|wo rfl (tD (by omega))<|pQ<|wt rfl (fin bQ q1 q2 (mj (by omega) (by omega) (by omega)))
  ·refine wr rfl<|dJ<|wg 1 rfl<|wx rfl fe fun|_,⟨bm,rfl,bQ,q1,q2⟩=>⟨rfl,?_⟩
   exact n6<|wg 4 rfl<|wo rfl oP<|wo rfl (aA (n:=bm.length+1) (by simp))<|wo rfl (tD (by omega))<|pQ<|wt rfl (fin bQ q1 q2 (mj (by omega) (by omega) (by omega)))
  ·refine wr rfl<|dJ<|wg 1 rfl<|wx rfl fe fun|_,⟨bm,rfl,bQ,q1,q2⟩=>⟨rfl,?_⟩
   exact n6<|wg 5 rfl<|wo rfl oP<|wo rfl (aA (n:=bm.length+1) (by simp))<|wo rfl (tD (by omega))<|pQ<|wt rfl (fin bQ q1 q2 (mj (by omega) (by omega) (by omega)))
  ·refine wr rfl<|dJ<|wg 1 rfl<|wx rfl fe fun|_,⟨bm,rfl,bQ,q1,q2⟩=>⟨rfl,?_⟩
   exact n6<|wg 6 rfl<|wo rfl oP<|wo rfl (aA (n:=bm.length+1) (by simp))<|wo rfl (tD (by omega))<|pQ<|wt rfl (fin bQ q1 q2 (mj (by omega) (by omega) (by omega)))
  ·refine wr rfl<|dJ<|wg 1 rfl<|wx rfl fe fun|_,⟨bm,rfl,bQ,q1,q2⟩=>⟨rfl,?_⟩
   refine n6<|wg 6 rfl<|wx rfl (cn bm bQ (by omega)) fun|_,⟨ub,rfl,rG,q3,q4⟩=>⟨rfl,?_⟩
   dsimp only [dU,Ex.r,St.r,List.cons_append,List.nil_append,df,de,iT,kr,kq,Ex.s,gC];exact wt rfl ⟨ub,rfl,rG,by omega,by omega⟩
  ·refine wr rfl<|dJ<|wg 1 rfl<|wx rfl fe fun|_,⟨bm,rfl,bQ,q1,q2⟩=>⟨rfl,?_⟩
   refine n6<|wg 7 rfl<|wx rfl (qF hp.t _) fun|_,⟨i1,rfl⟩=>⟨rfl,?_⟩
   exact wg 2 rfl<|wo rfl oP<|wo rfl (aA (n:=bm.length+1) (by simp))<|pQ<|wo rfl (tD (by omega))<|wt rfl (fin bQ q1 q2 (mj (by omega) (by omega) (by omega)))
  ·refine wr rfl<|dJ<|wg 1 rfl<|wx rfl fe fun|_,⟨bm,rfl,bQ,q1,q2⟩=>⟨rfl,?_⟩
   refine n6<|wg 8 rfl<|wx rfl (qF hp.t _) fun|_,⟨i1,rfl⟩=>⟨rfl,?_⟩
   exact wg 2 rfl<|wo rfl oP<|wo rfl (aA (n:=bm.length+1) (by simp))<|pQ<|wo rfl (tD (by omega))<|wt rfl (fin bQ q1 q2 (mj (by omega) (by omega) (by omega)))
  ·refine wr rfl<|dJ<|wg 1 rfl<|wx rfl fe fun|_,⟨bm,rfl,bQ,q1,q2⟩=>⟨rfl,?_⟩
   refine n6<|wg 9 rfl<|wx rfl (qF hp.t _) fun|_,⟨i1,rfl⟩=>⟨rfl,?_⟩
   exact wg 2 rfl<|wo rfl oP<|wo rfl (aA (n:=bm.length+1) (by simp))<|pQ<|wo rfl (tD (by omega))<|wt rfl (fin bQ q1 q2 (mj (by omega) (by omega) (by omega)))
  ·refine wr rfl<|dJ<|wg 1 rfl<|wx rfl fe fun|_,⟨bm,rfl,bQ,q1,q2⟩=>⟨rfl,?_⟩
   exact n6<|wn rfl ay<|wn rfl ay<|wn rfl ay<|wn rfl ay<|wn rfl ay<|wn rfl ay<|wn rfl ay<|wn rfl ay<|wg 2 rfl<|wo rfl oP<|wo rfl (aA (n:=bm.length+1) (by simp))<|wo rfl (tD (by omega))<|pQ<|wt rfl (fin bQ q1 q2 (mj (by omega) (by omega) (by omega)))
end
section
variable{X:Nat→List D→Option (List D)}
theorem aR7{p:Cp}(hp:p.Ok){l:List Fl.Ex}(dN:l.length≤3)(h:∀e∈l,kN jb e∧e.dp≤6){code:List (List D)}(hc:fO code)(hl:code.length≤50000):Rn F X 74 0 (gC p code++[.sl (Ex.ss l)]) (p6 p code (63*l.length)):=by
 have loop:∀(ae pre:List Fl.Ex),l=pre++ae→∀eS,fO eS→code.length≤eS.length→eS.length≤code.length+63*pre.length→Rn F X 74 1 ([.sl (Ex.ss l),jD l.length,jD pre.length]++gC p eS) (p6 p code (63*l.length)):=by
  intro ae
  induction ae with
  |nil=>
   intro pre aE eS iu q1 q2;rw[xj] at aE;subst aE;obtain⟨f,hs,own,vars,tables,flags,params⟩:=p;exact wr rfl<|nj<|wn rfl ak<|wt rfl ⟨eS,rfl,iu,q1,q2⟩
  |cons a ae dj=>
   intro pre aE eS iu q1 q2;have aC:=bu aE;have ap:(Ex.ss l)[pre.length]? =some (Ex.s a):=by rw[aE];exact tH _ _ _
   have ha:=h a (by rw[aE];simp);have aT:=ha.1.sz6 ha.2;have c1:=aZ4 (X:=X) hp ha.1 iu (by omega);have next:=dj (pre++[a]) (by rw[aE,bp]);rw[xa] at next;have e1:pre.length+[a].length=pre.length+1:=rfl;rw[e1] at next;obtain⟨o1,n1,i1,a1⟩:=a;obtain⟨f,hs,own,vars,tables,flags,params⟩:=p;refine wr rfl<|nj<|wy rfl ak<|wo rfl (aB ap rfl)<|wg 1 rfl<|fZ<|wg 1 rfl<|wx rfl c1 fun|_,⟨bm,rfl,bQ,q3,q4⟩=>⟨rfl,?_⟩
   exact pQ<|wo rfl oA<|Wp.jump rfl (next bm bQ (by omega) (by omega))
 have:=loop l [] rfl code hc (by omega) (by simp);obtain⟨f,hs,own,vars,tables,flags,params⟩:=p;exact wr rfl<|wo rfl (aA (jC _))<|wj this
theorem aL2{ar:List (List Nat)}{f:bq}(hf:iC ar f){i:Nat}(hi:i<ar.length){k:Nat}{hn:aH}{E T L:List (List D)}:Rn F X 71 0 [.sl (f.comps.map Cm.s),.ptr [bD k,.str [(97+i).toUInt8],.str hn,.sl E,.sl T,.sl L] 0] (·=[jD i]):=by
 have yC:=hf.n;have loop:∀(ae pre:List Cm),f.comps=pre++ae→pre.length≤i→Rn F X 71 1 [.sl (f.comps.map Cm.s),.ptr [bD k,.str [(97+i).toUInt8],.str hn,.sl E,.sl T,.sl L] 0,jD f.comps.length,jD pre.length] (·=[jD i]):=by
  intro ae
  induction ae with
  |nil=>
   intro pre hp aK;rw[xj] at hp;have:pre.length=f.comps.length:=by rw[hp]
   omega
  |cons a ae ih=>
   intro pre hp aK;have aC:=bu hp;have ap:=bR (f:=Cm.s) hp;have iL:=(hf.comps pre.length a (wz hp)).name;by_cases hs:pre.length=i
   ·obtain⟨a1,a2,a3⟩:=a;simp only at iL;rw[hs] at iL ap⊢;exact wr rfl<|wy rfl ak<|wo rfl (aB ap rfl)<|wg 1 rfl<|w8<|wg 2 rfl<|Wp.fR rfl nG iL<|wt rfl rfl
   ·have next:=ih (pre++[a]) (by rw[hp,bp]) (by simp;omega);rw[xa] at next;have bA:a.name≠[(97+i).toUInt8]:=fun e=>hs (Gm (by omega) (by omega) (by rw[←iL,e]))
    obtain⟨a1,a2,a3⟩:=a;simp only at bA;exact wr rfl<|wy rfl ak<|wo rfl (aB ap rfl)<|wg 1 rfl<|w8<|wg 2 rfl<|Wp.iG rfl nG bA<|wo rfl oA<|wj next
 exact wr rfl<|wo rfl (aA (ch _ _))<|Wp.jump rfl (loop f.comps [] rfl (by simp))
structure S9 (ar:List (List Nat)) (p:Cp):Prop where
 ok:p.Ok
 f:iC ar p.f
 hs:p.hs.length=ar.length
 hl:∀l∈p.hs,l.length≤1000
 own:p.own<p.hs.length
def OtQ(p:Cp)(code:List (List D))(m:Nat)(o:List D):Prop:=∃(t:Int) (eS:List (List D)),o= .int .i64 t::gC p eS∧fO eS∧code.length≤eS.length∧eS.length≤code.length+m∧0≤t∧t≤eS.length
theorem aV7{p:Cp}{l:List St}(hb:∀code,fO code→code.length+200*St.ns l≤40000→Rn F X 77 0 (gC p code++[.sl (St.ss l)]) (p6 p code (200*St.ns l))){code:List (List D)}(hc:fO code)(hl:code.length+200*St.ns l+1≤40000):Rn F X 75 0 (gC p code++[.sl (St.ss l)]) (OtQ p code (200*St.ns l+1)):=by
 have lW:=ot l;rcases xI l.length with h0|h0
 ·obtain⟨f,hs,own,vars,tables,flags,params⟩:=p;exact wr rfl<|wo rfl (aA (n:=l.length) (mY _))<|wy rfl ay<|wo rfl bf<|wt rfl ⟨_,code,rfl,hc,by omega,by omega,by omega,by omega⟩
 ·have s7:=hc.snoc (r:=[bD 27,.int .i64 0,.int .i64 0,.int .i64 0]) ⟨27,0,0,0,rfl,by omega,fun _=>by omega,fun _=>by omega,by omega,by omega⟩;have b1:=hb _ s7 (by rw[xa];show code.length+1+_≤_;omega);obtain⟨f,hs,own,vars,tables,flags,params⟩:=p;refine wr rfl<|wo rfl (aA (n:=l.length) (mY _))<|wn rfl ay<|wg 2 rfl<|wo rfl oP<|dJ<|wo rfl (aA (n:=code.length+1) (by simp))<|wo rfl oW<|wo rfl (aA (n:=code.length+1) (by simp))<|wg 1 rfl<|wx rfl b1 fun|_,⟨bm,rfl,bQ,q1,q2⟩=>⟨rfl,?_⟩
  refine MA<|wo rfl bf ?_;rw[xa] at q1 q2;have q1:code.length+1≤bm.length:=q1;have q2:bm.length≤code.length+1+200*St.ns l:=q2;obtain⟨r,hr,aQ⟩:=Pb bQ (i:=code.length+1 - 1) (by omega) (v:=bm.length);have rG:=bQ.RF hr (v:=bm.length) (by omega) (by omega);exact wy rfl DB<|wo rfl aQ<|wt rfl ⟨_,_,rfl,rG,by rw[xt];omega,by rw[xt];omega,by omega,by rw[xt];omega⟩
theorem u4{rows:List (List D)}{k n:Nat}(h:rows.length=n):aU .kW [.sl rows,jD k]=some (.bool (decide (k<n))):=by rw[←h];rfl
theorem vZ{p:Cp}{code bm:List (List D)}{m:Nat}(h:fO bm)(h1:code.length≤bm.length)(h2:bm.length≤code.length+m):p6 p code m (gC p bm):=⟨bm,rfl,h,h1,h2⟩
theorem LF{L:Nat}{op a b n:Int}(h0:0≤op∧op≤34)(h1:0≤a∧a≤L)(h2:0≤b∧b≤L)(h3:0≤n∧n≤8):sB L [.int .u8 op,.int .i64 a,.int .i64 b,.int .i64 n]:=by
 obtain⟨k,rfl⟩:=Int.eq_ofNat_of_zero_le h0.1;exact⟨k,a,b,n,rfl,by omega,fun _=>h1,fun _=>h2,h3.1,h3.2⟩
theorem cw5{L:Nat}{a n:Int}{op:Int}(h0:op=33)(h3:0≤n∧n≤8):sB L [.int .u8 op,.int .i64 a,.int .i64 0,.int .i64 n]:=by
 subst h0;exact⟨33,a,0,n,rfl,by omega,fun h=>by omega,fun _=>by omega,h3.1,h3.2⟩
theorem aY9{ar:List (List Nat)}{p:Cp}(hp:S9 ar p){w:Wd}(hw:w.Ok)(Uc:w.ar=ar){B:List St→Prop}{s:St}(hs:mL w B s)(hn:s.n≤12)
 (hb:∀l:List St,(l=[]∨B l)→St.ns l<s.n→∀code,fO code→code.length+200*St.ns l≤40000→Rn F X 77 0 (gC p code++[.sl (St.ss l)]) (p6 p code (200*St.ns l)))
 {code:List (List D)} (hc:fO code) (hl:code.length+200*s.n≤40000):Rn F X 76 0 (gC p code++St.s s) (p6 p code (200*s.n)):=by
 have jw:=hs.node hw hn;have s7:=hc.snoc (r:=[.int .u8 29,.int .i64 0,.int .i64 0,.int .i64 0]) (mj (by omega) (by omega) (by omega));have ex:=fun(l:List Fl.Ex) (h1:l.length≤3) (h2:∀e∈l,kN jb e∧e.dp≤6)=>aR7 (X:=X) hp.ok h1 h2 s7 (by rw[xa];show code.length+1≤_;omega)
 have kg:(code++[[D.int .u8 29,D.int .i64 0,D.int .i64 0,D.int .i64 0]]).length=code.length+1:=by simp
 have bS:=fun l h1 h2 (bm:List (List D)) h3 h4=>hb l h1 h2 bm h3 h4
 have oS:=fun l h1 h2 (bm:List (List D)) (h3:fO bm) (h4:bm.length+200*St.ns l+1≤40000)=>aV7 (X:=X) (p:=p) (l:=l) (hb l h1 h2) h3 h4
 have IL:=hp.ok;have jJ:=hp.own;cases hs with
 | @nP k h e he=>
  have kU:=ex [e] (by simp) jw.ex;obtain⟨f,hs,own,vars,tables,flags,params⟩:=p;refine wr rfl<|gu<|wg 2 rfl<|wo rfl oP<|wo rfl (aA kg)<|wo rfl oW<|iE<|wg 1 rfl ?_
  (refine wx rfl kU fun|_,⟨bm,rfl,bQ,q1,q2⟩=>⟨rfl,?_⟩;rw[kg] at q1 q2;try simp only [xi,xd] at q2)
  refine hZ<|wg 2 rfl<|wx rfl (qF IL.v _) fun|_,⟨i1,rfl⟩=>⟨rfl,?_⟩
  exact wg 2 rfl<|wo rfl oP<|wo rfl (aA (n:=bm.length+1) (by simp))<|jL<|wo rfl oW<|wt rfl (vZ (bQ.snoc (mj (by omega) (by omega) (by omega))) (by simp;omega) (by simp[St.n,St.ns] at*;omega))
 | @EA e he=>
  have kU:=ex [e] (by simp) jw.ex;obtain⟨f,hs,own,vars,tables,flags,params⟩:=p;refine wr rfl<|gu<|wg 2 rfl<|wo rfl oP<|wo rfl (aA kg)<|wo rfl oW<|iE<|wg 1 rfl ?_
  (refine wx rfl kU fun|_,⟨bm,rfl,bQ,q1,q2⟩=>⟨rfl,?_⟩;rw[kg] at q1 q2;try simp only [xi,xd] at q2)
  refine hZ<|wg 2 rfl<|wx rfl (qF IL.v _) fun|_,⟨i1,rfl⟩=>⟨rfl,?_⟩
  exact wg 2 rfl<|wo rfl oP<|wo rfl (aA (n:=bm.length+1) (by simp))<|jL<|wo rfl oW<|wt rfl (vZ (bQ.snoc (mj (by omega) (by omega) (by omega))) (by simp;omega) (by simp[St.n,St.ns] at*;omega))
 | @put h a b ha cx=>
  have kU:=ex [a,b] (by simp) jw.ex;obtain⟨f,hs,own,vars,tables,flags,params⟩:=p;refine wr rfl<|gu<|wg 2 rfl<|wo rfl oP<|wo rfl (aA kg)<|wo rfl oW<|iE<|wg 1 rfl ?_
  (refine wx rfl kU fun|_,⟨bm,rfl,bQ,q1,q2⟩=>⟨rfl,?_⟩;rw[kg] at q1 q2;try simp only [xi,xd] at q2)
  refine hZ<|wg 3 rfl<|wx rfl (qF IL.t _) fun|_,⟨i1,rfl⟩=>⟨rfl,?_⟩
  exact wg 2 rfl<|wo rfl oP<|wo rfl (aA (n:=bm.length+1) (by simp))<|jL<|wo rfl oW<|wt rfl (vZ (bQ.snoc (mj (by omega) (by omega) (by omega))) (by simp;omega) (by simp[St.n,St.ns] at*;omega))
 | @del h a ha=>
  have kU:=ex [a] (by simp) jw.ex;obtain⟨f,hs,own,vars,tables,flags,params⟩:=p;refine wr rfl<|gu<|wg 2 rfl<|wo rfl oP<|wo rfl (aA kg)<|wo rfl oW<|iE<|wg 1 rfl ?_
  (refine wx rfl kU fun|_,⟨bm,rfl,bQ,q1,q2⟩=>⟨rfl,?_⟩;rw[kg] at q1 q2;try simp only [xi,xd] at q2)
  refine hZ<|wg 4 rfl<|wx rfl (qF IL.t _) fun|_,⟨i1,rfl⟩=>⟨rfl,?_⟩
  exact wg 2 rfl<|wo rfl oP<|wo rfl (aA (n:=bm.length+1) (by simp))<|jL<|wo rfl oW<|wt rfl (vZ (bQ.snoc (mj (by omega) (by omega) (by omega))) (by simp;omega) (by simp[St.n,St.ns] at*;omega))
 | @cond e he th el h1 h2=>
  have kU:=ex [e] (by simp) jw.ex;simp only [St.n] at hn hl⊢;obtain⟨f,hs,own,vars,tables,flags,params⟩:=p;refine wr rfl<|gu<|wg 2 rfl<|wo rfl oP<|wo rfl (aA kg)<|wo rfl oW<|iE<|wg 1 rfl ?_
  (refine wx rfl kU fun|_,⟨bm,rfl,bQ,q1,q2⟩=>⟨rfl,?_⟩;rw[kg] at q1 q2;try simp only [xi,xd] at q2)
  refine hZ<|wg 6 rfl<|wo rfl oP<|wo rfl (aA (n:=bm.length+1) (by simp))<|wo rfl oW<|jL<|wg 1 rfl ?_
  (refine wx rfl (bS th (.inr h1) (by simp only [St.n];omega) _ (bQ.snoc (LF (by omega) (by omega) (by omega) (by omega))) (by simp;omega)) fun|_,⟨ub,rfl,rG,q3,q4⟩=>⟨rfl,?_⟩;rw[xa] at q3 q4)
  refine Ii<|wg 1 rfl<|wx rfl (oS el (.inr h2) (by simp only [St.n];omega) ub rG (by simp at q3 q4;omega)) fun|_,⟨t,ac0,rfl,rF,q5,q6,q7,q8⟩=>⟨rfl,?_⟩
  simp only [xi,xd] at q3 q4;obtain⟨r,hr,aQ⟩:=Pb rF (i:=bm.length+1 - 1) (by omega) (v:=t);have CB:=rF.RF hr (v:=t) q7 q8;exact wy rfl DB<|wo rfl aQ<|wt rfl ⟨_,rfl,CB,by rw[xt];omega,by rw[xt];omega⟩
 | @HJ e he th h1=>
  have kU:=ex [e] (by simp) jw.ex;simp only [St.n] at hn hl⊢;obtain⟨f,hs,own,vars,tables,flags,params⟩:=p;have Fx:((code.length+1 - 1:Nat):Int)=(code.length:Int):=by omega
  refine wr rfl<|gu<|wg 2 rfl<|wo rfl oP<|wo rfl (aA kg)<|wo rfl oW<|iE<|wg 1 rfl ?_
  (refine wx rfl kU fun|_,⟨bm,rfl,bQ,q1,q2⟩=>⟨rfl,?_⟩;rw[kg] at q1 q2;try simp only [xi,xd] at q2)
  refine hZ<|wg 7 rfl<|wo rfl oP<|wo rfl (aA (n:=bm.length+1) (by simp))<|wo rfl oW<|jL<|wg 1 rfl ?_
  (refine wx rfl (bS th (.inr h1) (by simp only [St.n];omega) _ (bQ.snoc (LF (by omega) (by omega) (by omega) (by omega))) (by simp;omega)) fun|_,⟨ub,rfl,rG,q3,q4⟩=>⟨rfl,?_⟩;rw[xa] at q3 q4)
  refine Ii<|wg 2 rfl ?_;simp only [xi,xd] at q3 q4;refine wo rfl oP<|wo rfl (aA (n:=ub.length+1) (by simp))<|wo rfl oW<|Cn<|wo rfl (aA (n:=ub.length+1) (by simp)) ?_;have rF:fO (ub++[[D.int .u8 27,jD (code.length+1 - 1),D.int .i64 0,D.int .i64 0]]):=rG.snoc (LF (by omega) (by omega) (by omega) (by omega));have hl4:(ub++[[D.int .u8 27,jD (code.length+1 - 1),D.int .i64 0,D.int .i64 0]]).length=ub.length+1:=by simp
  obtain⟨r,hr,aQ⟩:=Pb rF (i:=bm.length+1 - 1) (by omega) (v:=((ub.length+1:Nat):Int));have CB:=rF.RF hr (v:=((ub.length+1:Nat):Int)) (by omega) (by omega);exact wy rfl (u4 hl4)<|wo rfl aQ<|wt rfl ⟨_,rfl,CB,by rw[xt];omega,by rw[xt];omega⟩
 | @send i h n l hi' hh es he gY=>
  have kU:=ex es (by have:=jw.ln;simp at this;omega) jw.ex;simp only [St.n] at hn hl⊢;obtain⟨f,hs,own,vars,tables,flags,params⟩:=p;have cz:es.length≤3:=by have:=jw.ln;simp at this;omega
  have FF:i<ar.length:=by rw[←Uc];exact jW hi'
  have x71:=aL2 (X:=X) hp.f FF (k:=6) (hn:=nm 104 h) (E:=Ex.ss es) (T:=[]) (L:=[]);have uI:i<hs.length:=by have:=hp.hs;simp only at this;omega
  have ap:(hs.map fun l=>[D.sl (strs l)])[i]? =some [.sl (strs hs[i])]:=by rw[xx,xc uI];rfl
  have SF:=hp.hl hs[i] (List.getElem_mem uI);have dk3:(((Ex.ss es).length:Nat):Int)=(es.length:Int):=by rw[jC]
  refine wr rfl<|gu<|wg 2 rfl<|wo rfl oP<|wo rfl (aA kg)<|wo rfl oW<|iE<|wg 1 rfl ?_
  (refine wx rfl kU fun|_,⟨bm,rfl,bQ,q1,q2⟩=>⟨rfl,?_⟩;rw[kg] at q1 q2;try simp only [xi,xd] at q2)
  refine hZ<|wg 8 rfl<|wL rfl x71 rfl<|wo rfl (aB ap rfl)<|wg 1 rfl<|jL<|wo rfl (aA (jC es))<|wg 1 rfl<|wx rfl (qF SF _) fun|_,⟨i9,rfl⟩=>⟨rfl,?_⟩
  exact wg 2 rfl<|wo rfl oP<|mM<|wo rfl (aA (n:=bm.length+1) (by simp))<|wo rfl oW<|wt rfl (vZ (bQ.snoc (mj (by omega) (by omega) (by omega))) (by simp;omega) (by simp[St.n,St.ns] at*;omega))
 | @E7 h n l hi' hh es he gY=>
  have kU:=ex es (by have:=jw.ln;simp at this;omega) jw.ex;simp only [St.n] at hn hl⊢;obtain⟨f,hs,own,vars,tables,flags,params⟩:=p;have cz:1≤es.length∧es.length≤3:=by have:=jw.ln;simp at this;omega
  have uI:own<hs.length:=jJ;have ap:(hs.map fun l=>[D.sl (strs l)])[own]? =some [.sl (strs hs[own])]:=by rw[xx,xc uI];rfl
  have SF:=hp.hl hs[own] (List.getElem_mem uI);refine wr rfl<|gu<|wg 2 rfl<|wo rfl oP<|wo rfl (aA kg)<|wo rfl oW<|iE<|wg 1 rfl ?_
  (refine wx rfl kU fun|_,⟨bm,rfl,bQ,q1,q2⟩=>⟨rfl,?_⟩;rw[kg] at q1 q2;try simp only [xi,xd] at q2)
  refine hZ<|wg 7 rfl<|wo rfl (aB ap rfl)<|wg 1 rfl<|wo rfl (aA (jC es))<|wo rfl oW<|jL<|wg 1 rfl<|wx rfl (qF SF _) fun|_,⟨i9,rfl⟩=>⟨rfl,?_⟩
  exact wg 2 rfl<|wo rfl oP<|wo rfl (aA (n:=bm.length+1) (by simp))<|mM<|wo rfl oW<|wt rfl (vZ (bQ.snoc (mj (by omega) (by omega) (by omega))) (by simp;omega) (by simp[St.n,St.ns] at*;omega))
 | @store a b ha cx el h2=>
  have kU:=ex [a,b] (by simp) jw.ex;simp only [St.n] at hn hl⊢;obtain⟨f,hs,own,vars,tables,flags,params⟩:=p;refine wr rfl<|gu<|wg 2 rfl<|wo rfl oP<|wo rfl (aA kg)<|wo rfl oW<|iE<|wg 1 rfl ?_
  (refine wx rfl kU fun|_,⟨bm,rfl,bQ,q1,q2⟩=>⟨rfl,?_⟩;rw[kg] at q1 q2;try simp only [xi,xd] at q2)
  refine hZ<|wg 10 rfl<|wo rfl oP<|wo rfl (aA (n:=bm.length+1) (by simp))<|wo rfl oW<|jL<|wg 1 rfl ?_
  (refine wx rfl (oS el (.inr h2) (by simp only [St.n];omega) _ (bQ.snoc (LF (by omega) (by omega) (by omega) (by omega))) (by simp[St.ns] at hl⊢;omega)) fun|_,⟨t,ac0,rfl,rF,q5,q6,q7,q8⟩=>⟨rfl,?_⟩;rw[xa] at q5 q6)
  refine Wp.fR rfl qK (by(first|assumption|rfl)) ?_;simp only [xi,xd,St.ns] at q5 q6 hl⊢;obtain⟨r,hr,aQ⟩:=WE rF (i:=bm.length+1 - 1) (by omega) (v:=t);have CB:=rF.am1 hr (v:=t) q7 q8;exact wo rfl aQ<|wt rfl ⟨_,rfl,CB,by rw[xt];omega,by rw[xt];omega⟩
 | @HC k h a ha el h2=>
  have kU:=ex [a] (by simp) jw.ex;simp only [St.n] at hn hl⊢;obtain⟨f,hs,own,vars,tables,flags,params⟩:=p;refine wr rfl<|gu<|wg 2 rfl<|wo rfl oP<|wo rfl (aA kg)<|wo rfl oW<|iE<|wg 1 rfl ?_
  (refine wx rfl kU fun|_,⟨bm,rfl,bQ,q1,q2⟩=>⟨rfl,?_⟩;rw[kg] at q1 q2;try simp only [xi,xd] at q2)
  refine hZ<|wg 10 rfl<|wx rfl (qF IL.v _) fun|_,⟨i1,rfl⟩=>⟨rfl,?_⟩
  refine wg 2 rfl<|wo rfl oP<|wo rfl (aA (n:=bm.length+1) (by simp))<|jL<|wo rfl oW<|wg 1 rfl ?_
  (refine wx rfl (oS el (.inr h2) (by simp only [St.n];omega) _ (bQ.snoc (cw5 rfl (by omega))) (by simp[St.ns] at hl⊢;omega)) fun|_,⟨t,ac0,rfl,rF,q5,q6,q7,q8⟩=>⟨rfl,?_⟩;rw[xa] at q5 q6)
  refine Wp.fR rfl qK (by(first|assumption|rfl)) ?_;simp only [xi,xd,St.ns] at q5 q6 hl⊢;obtain⟨r,hr,aQ⟩:=WE rF (i:=bm.length+1 - 1) (by omega) (v:=t);have CB:=rF.am1 hr (v:=t) q7 q8;exact wo rfl aQ<|wt rfl ⟨_,rfl,CB,by rw[xt];omega,by rw[xt];omega⟩
 |stop=>
  have kU:=ex [] (by simp) jw.ex;obtain⟨f,hs,own,vars,tables,flags,params⟩:=p;refine wr rfl<|gu<|wg 2 rfl<|wo rfl oP<|wo rfl (aA kg)<|wo rfl oW<|iE<|wg 1 rfl ?_
  (refine wx rfl kU fun|_,⟨bm,rfl,bQ,q1,q2⟩=>⟨rfl,?_⟩;rw[kg] at q1 q2;try simp only [xi,xd] at q2)
  exact hZ<|wg 12 rfl<|wo rfl oP<|wo rfl (aA (n:=bm.length+1) (by simp))<|wo rfl oW<|jL<|wt rfl (vZ (bQ.snoc (mj (by omega) (by omega) (by omega))) (by simp;omega) (by simp[St.n,St.ns] at*;omega))
theorem cb0{p:Cp}{code:List (List D)}(hc:fO code):Rn F X 77 0 (gC p code++[.sl (St.ss [])]) (p6 p code (200*St.ns [])):=by
 obtain⟨f,hs,own,vars,tables,flags,params⟩:=p;exact wr rfl<|wo rfl bf<|Wp.jump rfl<|wr rfl<|wg 1 rfl<|wt rfl (vZ hc (by omega) (by omega))
theorem aZ6{ar:List (List Nat)}{p:Cp}(hp:S9 ar p){w:Wd}(hw:w.Ok)(Uc:w.ar=ar):∀(m:Nat) (l:List St) (d:Nat),St.ns l≤m→m≤12→l9 w d l→∀code,fO code→code.length+200*St.ns l≤40000→Rn F X 77 0 (gC p code++[.sl (St.ss l)]) (p6 p code (200*St.ns l)):=by
 intro m
 induction m with
 |zero=>
  intro l d hl _ _ code hc vW;have:=ot l;obtain rfl:l=[]:=xE.1 (by omega);obtain⟨f,hs,own,vars,tables,flags,params⟩:=p;exact wr rfl<|wo rfl bf<|Wp.jump rfl<|wr rfl<|wg 1 rfl<|wt rfl (vZ hc (by omega) (by omega))
 |succ m ih=>
  intro l d hl hm hb code hc vW;have loop:∀(ae pre:List St),l=pre++ae→∀eS,fO eS→code.length≤eS.length→eS.length≤code.length+200*St.ns pre→Rn F X 77 1 ([.sl (St.ss l),jD l.length,jD pre.length]++gC p eS) (p6 p code (200*St.ns l)):=by
   intro ae
   induction ae with
   |nil=>
    intro pre aE eS iu q1 q2;rw[xj] at aE;subst aE;obtain⟨f,hs,own,vars,tables,flags,params⟩:=p;exact wr rfl<|nj<|wn rfl ak<|wt rfl (vZ iu q1 q2)
   |cons a ae dj=>
    intro pre aE eS iu q1 q2;have aC:=bu aE;have lW:=ot l;have ap:(St.ss l)[pre.length]? =some (St.s a):=by rw[aE];exact y4 _ _ _
    have kv:St.ns l=St.ns pre+(St.n a+St.ns ae):=by rw[aE,St.wF];rfl
    have next:=dj (pre++[a]) (by rw[aE,bp]);rw[xa,St.wF] at next;obtain⟨d,rfl⟩:∃x,d=x+1:=by
     cases d with
     |zero=>rw[show l=[] from hb] at aE;simp at aE
     |succ x=>exact⟨x,rfl⟩
    have hs:=hb a (by rw[aE];simp);have c1:=aY9 (X:=X) hp hw Uc hs (by omega) (fun l2 h2 jk bm bQ bG=>by
     rcases h2 with rfl|h2
     ·exact cb0 bQ
     ·exact ih l2 d (by omega) (by omega) h2 bm bQ (by omega)) iu (by omega)
    obtain⟨kind,name,cg,bi,th,el⟩:=a;obtain⟨f,hs,own,vars,tables,flags,params⟩:=p;refine wr rfl<|nj<|wy rfl ak<|wo rfl (aB ap rfl)<|wg 1 rfl<|iE<|wg 1 rfl<|wx rfl c1 fun|_,⟨bm,rfl,bQ,q3,q4⟩=>⟨rfl,?_⟩
    exact hZ<|wo rfl oA<|Wp.jump rfl (next bm bQ (by omega) (by simp only [St.ns] at*;omega))
  have:=loop l [] rfl code hc (by omega) (by omega);obtain⟨f,hs,own,vars,tables,flags,params⟩:=p;exact wr rfl<|wo rfl (aA (mY _))<|wj this
end
section
variable{X:Nat→List D→Option (List D)}
theorem bm4{op:Nat}(h:op≤34):Rn F X 80 0 [bD op] (fun o=>∃(tx us:aH) (p q:Int),o=[.str tx,.str us,.int .i64 p,.int .i64 q]∧0≤p∧p≤2∧0≤q∧q≤1):=by
 have:op=0∨op=1∨op=2∨op=3∨op=4∨op=5∨op=6∨op=7∨op=8∨op=9∨op=10∨op=11∨op=12∨op=13∨op=14∨op=15∨op=16∨op=17∨op=18∨op=19∨op=20∨op=21∨op=22∨op=23∨op=24∨op=25∨op=26∨op=27∨op=28∨op=29∨op=30∨op=31∨op=32∨op=33∨op=34:=by omega
 rcases this with rfl|rfl|rfl|rfl|rfl|rfl|rfl|rfl|rfl|rfl|rfl|rfl|rfl|rfl|rfl|rfl|rfl|rfl|rfl|rfl|rfl|rfl|rfl|rfl|rfl|rfl|rfl|rfl|rfl|rfl|rfl|rfl|rfl|rfl|rfl<;>
 exact Rn.of (fd:=SX) (t:=ab8) rfl rfl rfl rfl (Wp.I9 rfl rfl (Wp.CT rfl rfl (Wp.aF rfl rfl rfl (wt rfl ⟨_,_,_,_,rfl,by omega,by omega,by omega,by omega⟩))))
def hD(hs:List Int):List (List D):=hs.map fun x=>[D.int .i64 x]
theorem Km{hs:List Int}{i:Nat}(h:i<hs.length):∃x,hs[i]? =some x∧(hD hs)[i]? =some [D.int .i64 x]:=⟨hs[i],xc h,by unfold hD;rw[xx,xc h];rfl⟩
theorem bq4(hs:List Int):(hD hs).length=hs.length:=xm _
theorem gQ{hs:List Int}{i:Nat}{x:Int}(h:(hD hs)[i]? =some [D.int .i64 x]):aU (.wN 0 1 false) [.sl (hD hs),jD i]=some (.int .i64 x):=OJ h rfl
theorem Dz{hs:List Int}{i:Nat}(h:i<hs.length){v:Int}:aU (.fk 0) [.sl (hD hs),jD i,.int .i64 v]=some (.sl (hD (hs.set i v))):=by
 obtain⟨x,_,hx⟩:=Km h;show((hD hs)[i]?).bind _=_;rw[hx];show some (D.sl ((hD hs).set i [D.int .i64 v]))=_;unfold hD;rw[List.map_set]
theorem fx{hs:List Int}{i:Nat}:aU .kW [.sl (hD hs),jD i]=some (.bool (decide (i<hs.length))):=u4 (bq4 hs)
theorem tC{hs:List Int}{i:Nat}(bg:i<hs.length){v:Int}:Rn F X 82 0 [.sl (hD hs),jD i,.int .i64 v] (fun o=>∃b,o=[.bool b,.sl (hD (hs.set i v))]):=by
 obtain⟨x,hx,Cv⟩:=Km bg;refine wr rfl<|Wp.fR rfl fx bg<|wo rfl (gQ Cv)<|Wp.bh rfl ak (fun h=> ?_) (fun h=> ?_)
 ·exact Wp.fR rfl fx bg<|wo rfl (Dz bg)<|wt rfl ⟨_,rfl⟩
 ·refine Wp.fR rfl fx bg<|wo rfl (gQ Cv)<|Wp.bh rfl ay (fun h=> ?_) (fun h=> ?_)
  ·exact Wp.fR rfl fx bg<|wo rfl (Dz bg)<|wt rfl ⟨_,rfl⟩
  ·exact Wp.fR rfl fx bg<|wo rfl (Dz bg)<|wt rfl ⟨_,rfl⟩
theorem aN8{L:Nat}{r:List D}(hr:sB L r):Rn F X 81 0 r (fun o=>(∃t:Nat,o=[jD t,.bool true]∧t≤L)∨o=[iD 0,.bool false]):=by
 obtain⟨op,a,b,n,rfl,h1,h2,h3,h4,h5⟩:=hr;by_cases q1:op=27∨op=28
 ·obtain⟨k,rfl⟩:=Int.eq_ofNat_of_zero_le (h2 q1).1;have:=(h2 q1).2;refine wr rfl<|Wp.bh rfl ay (fun h=> ?_) (fun h=> ?_)
  ·exact wt rfl (.inl ⟨k,rfl,by omega⟩)
  ·exact wy rfl ay<|wt rfl (.inl ⟨k,rfl,by omega⟩)
 ·by_cases q2:op=32∨op=33
  ·obtain⟨k,rfl⟩:=Int.eq_ofNat_of_zero_le (h3 q2).1;have:=(h3 q2).2;refine wr rfl<|wn rfl ay<|wn rfl ay<|Wp.bh rfl ay (fun h=> ?_) (fun h=> ?_)
   ·exact wt rfl (.inl ⟨k,rfl,by omega⟩)
   ·exact wy rfl ay<|wt rfl (.inl ⟨k,rfl,by omega⟩)
  ·exact wr rfl<|wn rfl ay<|wn rfl ay<|wn rfl ay<|wn rfl ay<|wt rfl (.inr rfl)
theorem bM9{n:Nat}(h:n≤100000):aU (.gR 1 8) [jD n,jD n,.int .i64 0]=some (.sl (List.replicate n [D.int .i64 0])):=by
 show(if _ then _ else none)=_;rw[if_pos ⟨rfl,xk _,by simp[jI];omega⟩]
theorem Wp.two{f j i:Nat}{us:List xM}{t t' e':DT}{ds env:List D}{x:D}{Q:List D→Prop}(h1:aX (bP (lk env)) us=some ds)(h2:Rn F X j 0 ds (fun o=>∃b,o=[.bool b,x]))(h3:x.cell=true)(hT:Wp F X i t (env++[.bool true,x]) Q)(hF:Wp F X i t' (env++[.bool false,x]) Q):Wp F X i (.call f j us [tt,no] t (.call f j us [ff,no] t' e')) env Q:=by
 obtain⟨_,ho,b,rfl⟩:=h2;cases b
 ·refine Wp.ac1 h1 ⟨_,ho,rfl⟩ rfl (Wp.Rs h1 ⟨_,ho,rfl⟩ ?_ hF);show(true&& (x.cell&&true))=true;rw[h3];rfl
 ·refine Wp.Rs h1 ⟨_,ho,rfl⟩ ?_ hT;show(true&& (x.cell&&true))=true;rw[h3];rfl
def HQ(o:List D):Prop:=∃(t:Int) (b:Bool),o=[.int .i64 t,.bool b]
theorem bn2{a b:Int}:aU .mx [.int .i64 a,.int .i64 b]=some (.int .i64 (if a<b then b else a)):=rfl
theorem y6{a b c:Int}:aU .mx [.int .i64 a,.int .i64 b,.int .i64 c]=some (.int .i64 (if(if a<b then b else a)<c then c else(if a<b then b else a))):=rfl
theorem Kk{hs:List Int}{m:Int}{i:Nat}{v:Int}(h:∀x∈hs,-1≤x∧x≤m)(hv: -1≤v∧v≤m):∀x∈hs.set i v,-1≤x∧x≤m:=fun x hx=>by
 rcases List.mem_or_eq_of_mem_set hx with hx|rfl
 ·exact h x hx
 ·exact hv
theorem tF{hs:List Int}{m m':Int}(h:∀x∈hs,-1≤x∧x≤m)(hm:m≤m'):∀x∈hs,-1≤x∧x≤m':=fun x hx=>by have:=h x hx;omega
theorem aH0{code:List (List D)}(hc:fO code)(hl:code.length≤50000):∀(f i:Nat),i+f=code.length→∀(hs:List Int) (Cq:Int),hs.length=code.length+1→(∀x∈hs,-1≤x∧x≤i)→Rn F X 83 2 [.sl code,.int .i64 Cq,jD code.length,jD i,.sl (hD hs)] HQ:=by
 intro f
 induction f with
 |zero=>
  intro i hi hs Cq bG hx;obtain rfl:i=code.length:=by omega
  obtain⟨x,_,Cv⟩:=Km (hs:=hs) (i:=code.length) (by omega);refine wr rfl<|wn rfl ak<|wo rfl bf<|wy rfl fx<|wo rfl (gQ Cv)<|Wp.bh rfl Xu (fun h=> ?_) (fun h=> ?_)
  ·exact wt rfl ⟨_,_,rfl⟩
  ·exact wt rfl ⟨_,_,rfl⟩
 |succ f ih=>
  intro i hi hs Cq bG hx;have qA:i<code.length:=by omega
  obtain⟨x,nv,Cv⟩:=Km (hs:=hs) (i:=i) (by omega);have TF:=hx x (xu nv);have fI:=hc code[i] (List.getElem_mem qA);have ap:code[i]? =some code[i]:=xc qA;have ht:=aN8 (X:=X) fI;obtain⟨op,a,b,n,e,h1,h2,h3,h4,h5⟩:=fI;rw[e] at ap ht;have at5:=bm4 (X:=X) h1;obtain⟨y,hy,hyx⟩:∃y:Int,(if x<0 then 0 else x)=y∧0≤y∧y≤i:=⟨_,rfl,by split<;>omega⟩;have eK:∀z∈hs.set i y,-1≤z∧z≤i:=Kk hx (by omega);have dN:(hs.set i y).length=code.length+1:=by rw[xt];exact bG
  have jv:(hD (hs.set i y))[i]? =some [D.int .i64 y]:=by unfold hD;rw[xx,List.getElem?_set_self (by omega)];rfl
  have hm:aU .mx [.int .i64 x,.int .i64 0]=some (.int .i64 y):=by rw[bn2,hy]
  have dz:∀(pV:List Int) (Cq:Int),pV.length=code.length+1→(∀z∈pV,-1≤z∧z≤((i+1:Nat):Int))→Rn F X 83 2 [.sl code,.int .i64 Cq,jD code.length,jD (i+1),.sl (hD pV)] HQ:=fun pV Cq h1 h2=>ih (i+1) (by omega) pV Cq h1 h2
  have pU:∀(v:Int) (k:Nat),-1≤v∧v≤((i+1:Nat):Int)→(∀z∈(hs.set i y).set k v,-1≤z∧z≤((i+1:Nat):Int)):=fun v k hv=>Kk (tF eK (by omega)) hv
  have vP:∀(v:Int) (k k':Nat),-1≤v∧v≤((i+1:Nat):Int)→(∀z∈((hs.set i y).set k v).set k' v,-1≤z∧z≤((i+1:Nat):Int)):=fun v k k' hv=>Kk (pU v k hv) hv
  obtain⟨_,ho,hq⟩:=ht;rcases hq with⟨t,rfl,htL⟩|rfl
  ·have uS:Rn F X 81 0 [bD op,.int .i64 a,.int .i64 b,.int .i64 n] (·=[jD t,.bool true]):=⟨_,ho,rfl⟩;refine wr rfl<|wy rfl ak<|wo rfl (aB ap rfl)<|wg 1 rfl<|n7<|wy rfl fx<|wo rfl (gQ Cv)<|wo rfl hm<|wy rfl fx<|wo rfl (Dz (by omega))<|wg 1 rfl<|wx rfl at5 fun|_,⟨tx,us,pp,qq,rfl,p0,p1,r0,r1⟩=>⟨rfl,?_⟩
   refine gu<|Wp.bh rfl ay (fun h=> ?_) (fun h=> ?_)
   ·refine wo rfl oI<|wy rfl fx<|wo rfl (gQ jv)<|Wp.bh rfl ak (fun h=> ?_) (fun h=> ?_)
    ·exact wt rfl ⟨_,_,rfl⟩
    ·refine wn rfl ay<|wy rfl fx<|wo rfl (gQ jv)<|wo rfl (tE (by omega) (by omega))<|iE<|wo rfl oI<|wy rfl fx<|wo rfl (gQ jv)<|wo rfl y6<|wy rfl gP<|wy rfl gP<|wo rfl oA<|yq<|wg 1 rfl<|Wp.two rfl (tC (by first|omega|(rw[xt];omega))) rfl ?_ ?_
     ·refine wl rfl uS rfl<|wg 1 rfl<|Wp.two rfl (tC (by first|omega|(rw[xt];omega))) rfl ?_ ?_
      ·exact wo rfl oA<|hZ<|Wp.jump rfl (dz _ _ (by first|exact dN|(rw[xt];exact dN)|(rw[xt,xt];exact dN)) (by first|exact tF eK (by omega)|exact pU _ _ (by omega)|exact vP _ _ _ (by omega)))
      ·exact wt rfl ⟨_,_,rfl⟩
     ·exact wt rfl ⟨_,_,rfl⟩
   ·refine Wp.bh rfl ay (fun h=> ?_) (fun h=> ?_)
    ·refine wo rfl oI<|wy rfl fx<|wo rfl (gQ jv)<|Wp.bh rfl ak (fun h=> ?_) (fun h=> ?_)
     ·exact wt rfl ⟨_,_,rfl⟩
     ·refine wn rfl ay<|wy rfl fx<|wo rfl (gQ jv)<|wo rfl (tE (by omega) (by omega))<|iE<|wo rfl oI<|wy rfl fx<|wo rfl (gQ jv)<|wo rfl y6<|wy rfl gP<|wy rfl gP<|wo rfl oA<|yq<|wg 1 rfl<|Wp.two rfl (tC (by first|omega|(rw[xt];omega))) rfl ?_ ?_
      ·refine wl rfl uS rfl<|wg 1 rfl<|Wp.two rfl (tC (by first|omega|(rw[xt];omega))) rfl ?_ ?_
       ·exact wo rfl oA<|hZ<|Wp.jump rfl (dz _ _ (by first|exact dN|(rw[xt];exact dN)|(rw[xt,xt];exact dN)) (by first|exact tF eK (by omega)|exact pU _ _ (by omega)|exact vP _ _ _ (by omega)))
       ·exact wt rfl ⟨_,_,rfl⟩
      ·exact wt rfl ⟨_,_,rfl⟩
    ·refine wy rfl fx<|wo rfl (gQ jv)<|Wp.bh rfl ak (fun h=> ?_) (fun h=> ?_)
     ·exact wt rfl ⟨_,_,rfl⟩
     ·refine Wp.bh rfl ay (fun h=> ?_) (fun h=> ?_)
      ·refine wy rfl fx<|wo rfl (gQ jv)<|Wp.bh rfl gP (fun h=> ?_) (fun h=> ?_)
       ·exact wt rfl ⟨_,_,rfl⟩
       ·refine wy rfl fx<|wo rfl (gQ jv)<|wo rfl (tE (by omega) (by omega))<|iE<|wo rfl oI<|wy rfl fx<|wo rfl (gQ jv)<|wo rfl y6<|wy rfl gP<|wn rfl gP<|wl rfl uS rfl<|n6<|wg 1 rfl<|Wp.two rfl (tC (by first|omega|(rw[xt];omega))) rfl ?_ ?_
        ·exact wo rfl oA<|Wp.jump rfl (dz _ _ (by first|exact dN|(rw[xt];exact dN)|(rw[xt,xt];exact dN)) (by first|exact tF eK (by omega)|exact pU _ _ (by omega)|exact vP _ _ _ (by omega)))
        ·exact wt rfl ⟨_,_,rfl⟩
      ·refine wy rfl fx<|wo rfl (gQ jv)<|wo rfl (tE (by omega) (by omega))<|wo rfl oI<|iE<|wy rfl fx<|wo rfl (gQ jv)<|wo rfl y6<|Wp.bh rfl gP (fun h=> ?_) (fun h=> ?_)
       ·refine wy rfl gP<|wo rfl oA<|wg 1 rfl<|Wp.two rfl (tC (by first|omega|(rw[xt];omega))) rfl ?_ ?_
        ·refine wg 1 rfl<|n6<|wL rfl uS rfl<|wg 1 rfl<|Wp.two rfl (tC (by first|omega|(rw[xt];omega))) rfl ?_ ?_
         ·exact wo rfl oA<|Wp.jump rfl (dz _ _ (by first|exact dN|(rw[xt];exact dN)|(rw[xt,xt];exact dN)) (by first|exact tF eK (by omega)|exact pU _ _ (by omega)|exact vP _ _ _ (by omega)))
         ·exact wt rfl ⟨_,_,rfl⟩
        ·exact wt rfl ⟨_,_,rfl⟩
       ·refine wl rfl uS rfl<|wg 1 rfl<|Wp.two rfl (tC (by first|omega|(rw[xt];omega))) rfl ?_ ?_
        ·exact wo rfl oA<|oX<|Wp.jump rfl (dz _ _ (by first|exact dN|(rw[xt];exact dN)|(rw[xt,xt];exact dN)) (by first|exact tF eK (by omega)|exact pU _ _ (by omega)|exact vP _ _ _ (by omega)))
        ·exact wt rfl ⟨_,_,rfl⟩
  ·have uS:Rn F X 81 0 [bD op,.int .i64 a,.int .i64 b,.int .i64 n] (·=[iD 0,.bool false]):=⟨_,ho,rfl⟩;refine wr rfl<|wy rfl ak<|wo rfl (aB ap rfl)<|wg 1 rfl<|n7<|wy rfl fx<|wo rfl (gQ Cv)<|wo rfl hm<|wy rfl fx<|wo rfl (Dz (by omega))<|wg 1 rfl<|wx rfl at5 fun|_,⟨tx,us,pp,qq,rfl,p0,p1,r0,r1⟩=>⟨rfl,?_⟩
   refine gu<|Wp.bh rfl ay (fun h=> ?_) (fun h=> ?_)
   ·refine wo rfl oI<|wy rfl fx<|wo rfl (gQ jv)<|Wp.bh rfl ak (fun h=> ?_) (fun h=> ?_)
    ·exact wt rfl ⟨_,_,rfl⟩
    ·refine wn rfl ay<|wy rfl fx<|wo rfl (gQ jv)<|wo rfl (tE (by omega) (by omega))<|iE<|wo rfl oI<|wy rfl fx<|wo rfl (gQ jv)<|wo rfl y6<|wy rfl gP<|wy rfl gP<|wo rfl oA<|yq<|wg 1 rfl<|Wp.two rfl (tC (by first|omega|(rw[xt];omega))) rfl ?_ ?_
     ·exact wl rfl uS rfl<|wo rfl oA<|Wp.jump rfl (dz _ _ (by first|exact dN|(rw[xt];exact dN)|(rw[xt,xt];exact dN)) (by first|exact tF eK (by omega)|exact pU _ _ (by omega)|exact vP _ _ _ (by omega)))
     ·exact wt rfl ⟨_,_,rfl⟩
   ·refine Wp.bh rfl ay (fun h=> ?_) (fun h=> ?_)
    ·refine wo rfl oI<|wy rfl fx<|wo rfl (gQ jv)<|Wp.bh rfl ak (fun h=> ?_) (fun h=> ?_)
     ·exact wt rfl ⟨_,_,rfl⟩
     ·refine wn rfl ay<|wy rfl fx<|wo rfl (gQ jv)<|wo rfl (tE (by omega) (by omega))<|iE<|wo rfl oI<|wy rfl fx<|wo rfl (gQ jv)<|wo rfl y6<|wy rfl gP<|wy rfl gP<|wo rfl oA<|yq<|wg 1 rfl<|Wp.two rfl (tC (by first|omega|(rw[xt];omega))) rfl ?_ ?_
      ·exact wl rfl uS rfl<|wo rfl oA<|Wp.jump rfl (dz _ _ (by first|exact dN|(rw[xt];exact dN)|(rw[xt,xt];exact dN)) (by first|exact tF eK (by omega)|exact pU _ _ (by omega)|exact vP _ _ _ (by omega)))
      ·exact wt rfl ⟨_,_,rfl⟩
    ·refine wy rfl fx<|wo rfl (gQ jv)<|Wp.bh rfl ak (fun h=> ?_) (fun h=> ?_)
     ·exact wt rfl ⟨_,_,rfl⟩
     ·refine Wp.bh rfl ay (fun h=> ?_) (fun h=> ?_)
      ·refine wy rfl fx<|wo rfl (gQ jv)<|Wp.bh rfl gP (fun h=> ?_) (fun h=> ?_)
       ·exact wt rfl ⟨_,_,rfl⟩
       ·exact wy rfl fx<|wo rfl (gQ jv)<|wo rfl (tE (by omega) (by omega))<|iE<|wo rfl oI<|wy rfl fx<|wo rfl (gQ jv)<|wo rfl y6<|wy rfl gP<|wn rfl gP<|wl rfl uS rfl<|n6<|wo rfl oA<|Wp.jump rfl (dz _ _ (by first|exact dN|(rw[xt];exact dN)|(rw[xt,xt];exact dN)) (by first|exact tF eK (by omega)|exact pU _ _ (by omega)|exact vP _ _ _ (by omega)))
      ·refine wy rfl fx<|wo rfl (gQ jv)<|wo rfl (tE (by omega) (by omega))<|wo rfl oI<|iE<|wy rfl fx<|wo rfl (gQ jv)<|wo rfl y6<|Wp.bh rfl gP (fun h=> ?_) (fun h=> ?_)
       ·refine wy rfl gP<|wo rfl oA<|wg 1 rfl<|Wp.two rfl (tC (by first|omega|(rw[xt];omega))) rfl ?_ ?_
        ·exact wg 1 rfl<|n6<|wL rfl uS rfl<|wo rfl oA<|Wp.jump rfl (dz _ _ (by first|exact dN|(rw[xt];exact dN)|(rw[xt,xt];exact dN)) (by first|exact tF eK (by omega)|exact pU _ _ (by omega)|exact vP _ _ _ (by omega)))
        ·exact wt rfl ⟨_,_,rfl⟩
       ·exact wl rfl uS rfl<|wo rfl oA<|n6<|Wp.jump rfl (dz _ _ (by first|exact dN|(rw[xt];exact dN)|(rw[xt,xt];exact dN)) (by first|exact tF eK (by omega)|exact pU _ _ (by omega)|exact vP _ _ _ (by omega)))
theorem aL4{code:List (List D)}(hc:fO code)(hl:code.length≤50000):Rn F X 83 0 [.sl code] HQ:=by
 have loop:∀(f i:Nat),i+f=code.length+1→∀(hs:List Int),hs.length=code.length+1→(∀x∈hs,-1≤x∧x≤0)→Rn F X 83 1 [.sl code,jD (code.length+1),jD i,.sl (hD hs)] HQ:=by
  intro f
  induction f with
  |zero=>
   intro i hi hs h1 h2;exact wr rfl<|wn rfl ak<|wo rfl bf<|Wp.jump rfl (aH0 hc hl code.length 0 (by omega) hs 0 h1 h2)
  |succ f ih=>
   intro i hi hs h1 h2;have next:=ih (i+1) (by omega) (hs.set i (-1)) (by rw[xt];exact h1) (Kk h2 (by omega));exact wr rfl<|wy rfl ak<|wy rfl fx<|wo rfl (Dz (by omega))<|wo rfl oA<|wj next
 have e:hD (List.replicate (code.length+1) 0)=List.replicate (code.length+1) [D.int .i64 0]:=by unfold hD;rw[List.map_replicate]
 have h0:=loop (code.length+1) 0 (by omega) (List.replicate (code.length+1) 0) (by simp) (fun x hx=>by have:=List.eq_of_mem_replicate hx;omega);rw[e] at h0;exact wr rfl<|wo rfl bf<|wo rfl oA<|wo rfl (bM9 (by omega))<|wo rfl (aA (List.length_replicate))<|w5<|wj h0
end
structure Un where
 n:Nat
 t:Int
 c:List (List D)
abbrev uD(u:Un):List D:=[jD u.n,.int .i64 u.t,.sl u.c]
section
variable{X:Nat→List D→Option (List D)}{ar:List (List Nat)}{f:bq}{hss:List (List aH)}{i:Nat}{c:Cm}{al:List Nat}{ints tables:Nat}
structure PO (f:bq) (hss:List (List aH)) (i:Nat) (p:Cp):Prop where
 f:p.f=f
 hs:p.hs=hss
 own:p.own=i
 v:p.vars.length≤1000
 t:p.tables.length≤1000
 fl:p.flags.length≤1000
def UQ(f:bq)(hss:List (List aH))(i:Nat)(o:List D):Prop:=∃u p' eS,o=uD u++gC p' eS∧PO f hss i p'
theorem OX(hf:iC ar f)(hh:hss.length=ar.length)(pa:∀l∈hss,l.length≤1000)(bt:ar[i]? =some al)(i3:ints≤3)(t1:tables≤1){h:Hn}{k:Nat}(ho:sQ ints tables f.flags.length i ar al k h){p:Cp}(hp:PO f hss i p){code:List (List D)}:Rn F X 78 0 (gC p code++h.s) (UQ f hss i):=by
 obtain⟨m,hm,mR,hb⟩:=ho.mO;have cP:=hf.v8;have eV:=(cP al (xu bt)).2.2 m (xu hm);have vS:=ho.n;have hn:=hf.n;obtain⟨pf,rm,own,vars,OY,flags,params⟩:=p;obtain⟨e1,e2,e3,v1,v2,v3⟩:=hp;simp only at e1 e2 e3 v1 v2 v3;subst e1;subst e2;subst e3;obtain⟨h1,h2,h3⟩:=h;simp only at mR hb vS;have fV:h2.length=m:=by rw[mR];simp[bl]
 have fp:(strs h2).length=h2.length:=xm _;have FI:S9 ar ⟨pf,rm,own,vars,OY,flags,h2⟩:=⟨⟨v1,v2,v3,by show h2.length≤1000;omega⟩,hf,hh,pa,by show own<rm.length;rw[hh];exact jW bt⟩;have c1:=aZ6 (X:=X) FI (w:=⟨⟨ints,tables,pf.flags.length,m⟩,ar,own⟩) ⟨⟨i3,t1,hf.flags.1,eV⟩,hn.2.2,fun l h=>(cP l h).2⟩ rfl 12 h3 4 vS (xk _) hb [] (fun r h=>by cases h) (by simp;omega);refine wr rfl<|nj<|wg 1 rfl<|wx rfl c1 fun|_,⟨bm,rfl,bQ,q1,q2⟩=>⟨rfl,?_⟩
 refine yq<|wg 1 rfl ?_;obtain⟨_,hq,t,b,rfl⟩:=aL4 (X:=X) bQ (by simp at q2;omega);have c2:Rn F X 83 0 [.sl bm] (·=[.int .i64 t,.bool b]):=⟨_,hq,rfl⟩;cases b
 ·exact wL rfl c2 rfl<|wo rfl (aA fp)<|wt rfl ⟨⟨h2.length,t,bm⟩,⟨pf,rm,own,vars,OY,flags,h2⟩,bm,rfl,rfl,rfl,rfl,v1,v2,v3⟩
 ·exact wL rfl c2 rfl<|wo rfl (aA fp)<|wt rfl ⟨⟨h2.length,t,bm⟩,⟨pf,rm,own,vars,OY,flags,h2⟩,bm,rfl,rfl,rfl,rfl,v1,v2,v3⟩
theorem OM{n k:Nat}(hn:n≤3)(hk:k<n):Rn F X 43 0 [.sl (strs (bl 104 n)),.str (nm 104 k)] (·=[iD k]):=(Dd (X:=X) (l:=bl 104 n) (by simp[bl];omega) (nm 104 k)).mono fun o h=>by
 rcases h with⟨_,j,rfl,hj,he⟩|⟨gY,_⟩
 ·rw[bl,xx] at he;have sZ:j<n:=by simpa[bl] using hj
  rw[List.getElem?_range sZ] at he;have he:nm 104 j=nm 104 k:=by simpa using he
  rw[(u5 (by omega) (by omega) (by omega) (by omega) he).2]
 ·exact absurd (YH hk) gY
def CQ(f:bq)(hss:List (List aH))(QB:List aH)(o:List D):Prop:=∃(us fs:List (List D)) (p':Cp) (eS:List (List D)),o=[.sl (strs QB),.sl us,.sl fs]++gC p' eS∧p'.f=f∧p'.hs=hss
theorem cp1(hf:iC ar f)(hh:hss.length=ar.length)(pa:∀l∈hss,l.length≤1000)(bt:ar[i]? =some al)(i3:ints≤3)(t1:tables≤1)(hn:al.length=1)(cM:c.bx.length≤2)(ji:∀l∈c.bx,1≤l.length∧l.length≤al.length∧∀k h,l[k]? =some h→sQ ints tables f.flags.length i ar al k h):
 ∀(ae pre:List (List Hn)),c.bx=pre++ae→∀(p:Cp) (code:List (List D)),PO f hss i p→∀(U G:List (List D)),U.length=pre.length→G.length=pre.length→∀(u0:Un) (g0:Bool),Rn F X 79 3 ([.sl (cL c.bx),jD c.bx.length,jD pre.length]++gC p code++[.sl (strs (bl 104 1)),.sl U,.sl G]++uD u0++[.bool g0]) (CQ f hss (bl 104 1)):=by
 intro ae
 induction ae with
 |nil=>
  intro pre aE p code hp U G hU hG u0 g0;rw[xj] at aE;have hp':pre.length=c.bx.length:=by rw[aE]
  exact wr rfl<|iE<|wn rfl ak<|wt rfl ⟨U,G,p,code,rfl,hp.f,hp.hs⟩
 |cons v ae ih=>
  intro pre aE p code hp U G hU hG u0 g0;have aC:=bu aE;have ap:(cL c.bx)[pre.length]? =some [.sl (v.map Hn.s)]:=bR (f:=fun l:List Hn=>[D.sl (l.map Hn.s)]) aE;have hv:=ji v (by rw[aE];simp);have next:=ih (pre++[v]) (by rw[aE,bp]);rw[xa] at next;have mh:∀(dI bw:List Hn),v=bw++dI→∀(p:Cp) (code:List (List D)),PO f hss i p→∀(u0:Un) (g0:Bool),Rn F X 79 6 ([.sl (cL c.bx),jD c.bx.length,jD pre.length,.sl (v.map Hn.s),jD v.length,jD bw.length]++gC p code++[.sl (strs (bl 104 1)),.sl U,.sl G]++uD u0++[.bool g0]) (CQ f hss (bl 104 1)):=by
   intro dI
   induction dI with
   |nil=>
    intro bw bF p code hp u0 g0;rw[xj] at bF;subst bF;exact wr rfl<|yr<|wn rfl ak<|wg 3 rfl<|wo rfl oP<|wg 2 rfl<|oX<|wg 1 rfl<|wo rfl oP<|wo rfl oA<|Wp.jump rfl (next p code hp _ _ (by simp[hU]) (by simp[hG]) u0 g0)
   |cons h dI mP=>
    intro bw bF p code hp u0 g0;have xW:=bu bF;have gk:=bR (f:=Hn.s) bF;have eZ:=mP (bw++[h]) (by rw[bF,bp]);rw[xa] at eZ;have ho:=hv.2.2 bw.length h (wz bF);have cU:=OX (X:=X) hf hh pa bt i3 t1 ho hp (code:=code);have cI:=OM (X:=X) (n:=1) (k:=bw.length) (by omega) (by omega);rw[←ho.name] at cI;obtain⟨h1,h2,h3⟩:=h;have hk:bw.length=0:=by omega
    simp only at cI;have e3:bw.length+[(⟨h1,h2,h3⟩:Hn)].length=bw.length+1:=rfl;rw[e3] at eZ;generalize bw.length=k at*;rcases hk with rfl
    ·refine wr rfl<|yr<|wy rfl ak<|wo rfl (aB gk rfl)<|wg 1 rfl<|oX<|wl rfl cI rfl<|wg 1 rfl<|wx rfl cU fun|_,⟨u,p2,bm,rfl,aY⟩=>⟨rfl,?_⟩
     dsimp only [dU,Ex.r,St.r,List.cons_append,List.nil_append,df,de,iT,kr,kq,Hn.s,gC];exact wo rfl oA<|wj (eZ p2 bm aY u true)
  exact wr rfl<|iE<|wy rfl ak<|wo rfl (aB ap rfl)<|wg 1 rfl<|qp<|wo rfl (aA (ch _ _))<|wj (mh v [] rfl p code hp u0 g0)
theorem cp0(hf:iC ar f)(hh:hss.length=ar.length)(pa:∀l∈hss,l.length≤1000)(bt:ar[i]? =some al)(i3:ints≤3)(t1:tables≤1)(hn:al.length=2)(cM:c.bx.length≤2)(ji:∀l∈c.bx,1≤l.length∧l.length≤al.length∧∀k h,l[k]? =some h→sQ ints tables f.flags.length i ar al k h):
 ∀(ae pre:List (List Hn)),c.bx=pre++ae→∀(p:Cp) (code:List (List D)),PO f hss i p→∀(U G:List (List D)),U.length=pre.length→G.length=pre.length→∀(u0 u1:Un) (g0 g1:Bool),Rn F X 79 4 ([.sl (cL c.bx),jD c.bx.length,jD pre.length]++gC p code++[.sl (strs (bl 104 2)),.sl U,.sl G]++uD u0++uD u1++[.bool g0,.bool g1]) (CQ f hss (bl 104 2)):=by
 intro ae
 induction ae with
 |nil=>
  intro pre aE p code hp U G hU hG u0 u1 g0 g1;rw[xj] at aE;have hp':pre.length=c.bx.length:=by rw[aE]
  exact wr rfl<|yq<|wn rfl ak<|wt rfl ⟨U,G,p,code,rfl,hp.f,hp.hs⟩
 |cons v ae ih=>
  intro pre aE p code hp U G hU hG u0 u1 g0 g1;have aC:=bu aE;have ap:(cL c.bx)[pre.length]? =some [.sl (v.map Hn.s)]:=bR (f:=fun l:List Hn=>[D.sl (l.map Hn.s)]) aE;have hv:=ji v (by rw[aE];simp);have next:=ih (pre++[v]) (by rw[aE,bp]);rw[xa] at next;have mh:∀(dI bw:List Hn),v=bw++dI→∀(p:Cp) (code:List (List D)),PO f hss i p→∀(u0 u1:Un) (g0 g1:Bool),Rn F X 79 7 ([.sl (cL c.bx),jD c.bx.length,jD pre.length,.sl (v.map Hn.s),jD v.length,jD bw.length]++gC p code++[.sl (strs (bl 104 2)),.sl U,.sl G]++uD u0++uD u1++[.bool g0,.bool g1]) (CQ f hss (bl 104 2)):=by
   intro dI
   induction dI with
   |nil=>
    intro bw bF p code hp u0 u1 g0 g1;rw[xj] at bF;subst bF;exact wr rfl<|oX<|wn rfl ak<|wg 3 rfl<|wo rfl oP<|wg 2 rfl<|hZ<|wg 1 rfl<|wo rfl oP<|wo rfl oA<|Wp.jump rfl (next p code hp _ _ (by simp[hU]) (by simp[hG]) u0 u1 g0 g1)
   |cons h dI mP=>
    intro bw bF p code hp u0 u1 g0 g1;have xW:=bu bF;have gk:=bR (f:=Hn.s) bF;have eZ:=mP (bw++[h]) (by rw[bF,bp]);rw[xa] at eZ;have ho:=hv.2.2 bw.length h (wz bF);have cU:=OX (X:=X) hf hh pa bt i3 t1 ho hp (code:=code);have cI:=OM (X:=X) (n:=2) (k:=bw.length) (by omega) (by omega);rw[←ho.name] at cI;obtain⟨h1,h2,h3⟩:=h;have hk:bw.length=0∨bw.length=1:=by omega
    simp only at cI;have e3:bw.length+[(⟨h1,h2,h3⟩:Hn)].length=bw.length+1:=rfl;rw[e3] at eZ;generalize bw.length=k at*;rcases hk with rfl|rfl
    ·refine wr rfl<|oX<|wy rfl ak<|wo rfl (aB gk rfl)<|wg 1 rfl<|hZ<|wl rfl cI rfl<|wg 1 rfl<|wx rfl cU fun|_,⟨u,p2,bm,rfl,aY⟩=>⟨rfl,?_⟩
     exact Ii<|wo rfl oA<|wj (eZ p2 bm aY u u1 true g1)
    ·refine wr rfl<|oX<|wy rfl ak<|wo rfl (aB gk rfl)<|wg 1 rfl<|hZ<|wl rfl cI rfl<|wg 1 rfl<|wx rfl cU fun|_,⟨u,p2,bm,rfl,aY⟩=>⟨rfl,?_⟩
     exact Ii<|wo rfl oA<|wj (eZ p2 bm aY u0 u g0 true)
  exact wr rfl<|yq<|wy rfl ak<|wo rfl (aB ap rfl)<|wg 1 rfl<|iS<|wo rfl (aA (ch _ _))<|wj (mh v [] rfl p code hp u0 u1 g0 g1)
theorem co9(hf:iC ar f)(hh:hss.length=ar.length)(pa:∀l∈hss,l.length≤1000)(bt:ar[i]? =some al)(i3:ints≤3)(t1:tables≤1)(hn:al.length=3)(cM:c.bx.length≤2)(ji:∀l∈c.bx,1≤l.length∧l.length≤al.length∧∀k h,l[k]? =some h→sQ ints tables f.flags.length i ar al k h):
 ∀(ae pre:List (List Hn)),c.bx=pre++ae→∀(p:Cp) (code:List (List D)),PO f hss i p→∀(U G:List (List D)),U.length=pre.length→G.length=pre.length→∀(u0 u1 u2:Un) (g0 g1 g2:Bool),Rn F X 79 5 ([.sl (cL c.bx),jD c.bx.length,jD pre.length]++gC p code++[.sl (strs (bl 104 3)),.sl U,.sl G]++uD u0++uD u1++uD u2++[.bool g0,.bool g1,.bool g2]) (CQ f hss (bl 104 3)):=by
 intro ae
 induction ae with
 |nil=>
  intro pre aE p code hp U G hU hG u0 u1 u2 g0 g1 g2;rw[xj] at aE;have hp':pre.length=c.bx.length:=by rw[aE]
  exact wr rfl<|MA<|wn rfl ak<|wt rfl ⟨U,G,p,code,rfl,hp.f,hp.hs⟩
 |cons v ae ih=>
  intro pre aE p code hp U G hU hG u0 u1 u2 g0 g1 g2;have aC:=bu aE;have ap:(cL c.bx)[pre.length]? =some [.sl (v.map Hn.s)]:=bR (f:=fun l:List Hn=>[D.sl (l.map Hn.s)]) aE;have hv:=ji v (by rw[aE];simp);have next:=ih (pre++[v]) (by rw[aE,bp]);rw[xa] at next;have mh:∀(dI bw:List Hn),v=bw++dI→∀(p:Cp) (code:List (List D)),PO f hss i p→∀(u0 u1 u2:Un) (g0 g1 g2:Bool),Rn F X 79 8 ([.sl (cL c.bx),jD c.bx.length,jD pre.length,.sl (v.map Hn.s),jD v.length,jD bw.length]++gC p code++[.sl (strs (bl 104 3)),.sl U,.sl G]++uD u0++uD u1++uD u2++[.bool g0,.bool g1,.bool g2]) (CQ f hss (bl 104 3)):=by
   intro dI
   induction dI with
   |nil=>
    intro bw bF p code hp u0 u1 u2 g0 g1 g2;rw[xj] at bF;subst bF;exact wr rfl<|hZ<|wn rfl ak<|wg 3 rfl<|wo rfl oP<|wg 2 rfl<|jL<|wg 1 rfl<|wo rfl oP<|wo rfl oA<|Wp.jump rfl (next p code hp _ _ (by simp[hU]) (by simp[hG]) u0 u1 u2 g0 g1 g2)
   |cons h dI mP=>
    intro bw bF p code hp u0 u1 u2 g0 g1 g2;have xW:=bu bF;have gk:=bR (f:=Hn.s) bF;have eZ:=mP (bw++[h]) (by rw[bF,bp]);rw[xa] at eZ;have ho:=hv.2.2 bw.length h (wz bF);have cU:=OX (X:=X) hf hh pa bt i3 t1 ho hp (code:=code);have cI:=OM (X:=X) (n:=3) (k:=bw.length) (by omega) (by omega);rw[←ho.name] at cI;obtain⟨h1,h2,h3⟩:=h;have hk:bw.length=0∨bw.length=1∨bw.length=2:=by omega
    simp only at cI;have e3:bw.length+[(⟨h1,h2,h3⟩:Hn)].length=bw.length+1:=rfl;rw[e3] at eZ;generalize bw.length=k at*;rcases hk with rfl|rfl|rfl
    ·refine wr rfl<|hZ<|wy rfl ak<|wo rfl (aB gk rfl)<|wg 1 rfl<|jL<|wl rfl cI rfl<|wg 1 rfl<|wx rfl cU fun|_,⟨u,p2,bm,rfl,aY⟩=>⟨rfl,?_⟩
     exact Cn<|wo rfl oA<|wj (eZ p2 bm aY u u1 u2 true g1 g2)
    ·refine wr rfl<|hZ<|wy rfl ak<|wo rfl (aB gk rfl)<|wg 1 rfl<|jL<|wl rfl cI rfl<|wg 1 rfl<|wx rfl cU fun|_,⟨u,p2,bm,rfl,aY⟩=>⟨rfl,?_⟩
     exact Cn<|wo rfl oA<|wj (eZ p2 bm aY u0 u u2 g0 true g2)
    ·refine wr rfl<|hZ<|wy rfl ak<|wo rfl (aB gk rfl)<|wg 1 rfl<|jL<|wl rfl cI rfl<|wg 1 rfl<|wx rfl cU fun|_,⟨u,p2,bm,rfl,aY⟩=>⟨rfl,?_⟩
     exact Cn<|wo rfl oA<|wj (eZ p2 bm aY u0 u1 u g0 g1 true)
  exact wr rfl<|MA<|wy rfl ak<|wo rfl (aB ap rfl)<|wg 1 rfl<|n5<|wo rfl (aA (ch _ _))<|wj (mh v [] rfl p code hp u0 u1 u2 g0 g1 g2)
end
end Go.Proofs.YtaginlnifpbfgaaGreatDoor
