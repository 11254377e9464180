/- What these functions answer. -/
import Derived.Test.YthicpeihkkokmaaGreatDoorP5
set_option linter.unusedVariables false
set_option linter.unusedSimpArgs false
set_option maxHeartbeats 4000000
set_option maxRecDepth 100000
namespace Go.Fl
open Go.Ex
theorem _root_.Go.Pn{p:Prop}(h:p:=by first|omega|(rw[xt];omega)):p:=h
mutual
def Ex.sz:Ex->Nat| .mk _ _ _ args=>Ex.fF args+1
def Ex.fF:List Ex->Nat|[]=>0|e::l=>Ex.sz e+Ex.fF l
end
theorem Ex.VO:∀(l:List Ex) (a:Ex),Ex.fF (l++[a])=Ex.fF l+a.sz
 |[],a=>by simp[Ex.fF]
 |e::l,a=>by simp only [c_,Ex.fF,Ex.VO l a];omega
theorem Ex.X4{l:List Ex}{m:Nat}(h:∀a∈l,a.sz<=m):Ex.fF l<=l.length*m:=by
 induction l with
 |nil=>simp[Ex.fF]
 |cons a l ih=>
  have h1:=h a NS;have h2:=ih (fun b hb=>h b (by simp[hb]));simp only [Ex.fF,xi,Nat.add_mul,Nat.one_mul];omega
theorem jo.sz{e:Ex}(h:jo gO e):e.sz+1<=2^e.dp:=by
 induction h with
 | @mk op name n args hn ha ih=>
  obtain⟨h1,h2,h3,h4,h5⟩:=hn.get;have dY:args.length<=2:=by rw[h3];unfold jr;split<;>(try split)<;>omega
  have hd:∀a∈args,a.sz+1<=2^Ex.eB args:=fun a ha=>xH (ih a ha) (Nat.pow_le_pow_right MK (Ex.Jr ha))
  have h1:1<=2^Ex.eB args:=Nat.one_le_two_pow;simp only [Ex.sz,Ex.dp,Nat.pow_succ]
  match args,dY,hd with
  |[],_,_=>simp only [Ex.fF];omega
  |[a],_,hd=>have:=hd a NS;simp only [Ex.fF];omega
  |[a,b],_,hd=>have:=hd a NS;have:=hd b NS;simp only [Ex.fF];omega
theorem jo.LS{e:Ex}(h:jo gO e)(hd:e.dp<=6):e.sz<=63:=by
 have:=h.sz;have:2^e.dp<=2^6:=Nat.pow_le_pow_right MK hd;omega
end Go.Fl
namespace Go.Proofs.YthicpeihkkokmaaGreatDoor
open Go.Ex Go.RowKit Go.Fl
variable{X:Bv}{n L k:Nat}{op a b:Int}{p:Cp}{code:Ca}{ar:Dw}{hs:List Int}
section
section
theorem aQ5{l:L5}{s:aq}{o:Di}(h:SL l s o):∃i:Int,o=[.int .i64 i]:=by
 rcases h with⟨_,i,rfl,_⟩|⟨_,rfl⟩
 ·exact⟨i,rfl⟩
 ·exact⟨-1,rfl⟩
theorem qd{l:L5}(hl:l.length<=1000)(s:aq):Rn F X 43 0 [.sl (strs l),.str s] (fun o=>∃i:Int,o=[.int .i64 i]):=(Co hl s).mono fun _ h=>aQ5 h
theorem rP{c:Nat}(h:n<=1000000):aF (.bin .sub c) [jD n,.int .i64 1]=some (.int .i64 ((n:Int) - 1)):=rQ MK MK
theorem mm{n:Int}(h0:0<=op/\op<=34)(h2:op≠27/\op≠28/\op≠32/\op≠33)(h3:0<=n/\n<=8):rf L [.int .u8 op,.int .i64 a,.int .i64 b,.int .i64 n]:=by
 obtain⟨k,rfl⟩:=Int.eq_ofNat_of_zero_le h0.1;exact bu6 MK MK h3.1 h3.2
theorem grow{r:Di}(hc:gz code)(hr:rf code.length r):pr p code 1 (hY p (code++[r])):=⟨_,rfl,hc.snoc hr,NS,NS⟩
theorem aI7(hp:p.Ok)(hc:gz code)(hl:code.length<=100000)(s:aq):Rn F X 72 0 (hY p code++[.str s]) (pr p code 1):=by
 obtain⟨f,hs,own,vars,tables,flags,params⟩:=p;refine wr Y<|wg 1 Y<|wx Y (qd hp.p _) fun|_,⟨i1,rfl⟩=>⟨Y,?_⟩
 refine d_ Y eP ?_ ?_<;>intro h
 ·exact wg 2 Y<|wo Y oP<|dW<|wo Y (au (n:=code.length+1) NS)<|wo Y (rP MK)<|wt Y (grow hc (mm MK MK MK))
 ·refine wg 1 Y<|wx Y (qd hp.v _) fun|_,⟨i2,rfl⟩=>⟨Y,?_⟩
  refine d_ Y eP ?_ ?_<;>intro h
  ·exact wg 2 Y<|dW<|wo Y oP<|wo Y (au (n:=code.length+1) NS)<|wo Y (rP MK)<|wt Y (grow hc (mm MK MK MK))
  ·refine wg 1 Y<|wx Y (qd hp.f _) fun|_,⟨i3,rfl⟩=>⟨Y,?_⟩
   exact dW<|wg 2 Y<|wo Y oP<|wo Y (au (n:=code.length+1) NS)<|wo Y (rP MK)<|gI<|wt Y (grow hc (mm MK MK MK))
theorem aI8(hp:p.Ok){e:Fl.Ex}(h:jo gO e):∀{code:Ca},gz code->code.length+e.sz<=100000->Rn F X 73 0 (hY p code++Ex.s e) (pr p code e.sz):=by
 induction h with
 | @mk op name n args hn ha ih=>
  intro code hc hl;obtain⟨h1,h2,h3,h4,h5⟩:=hn.get;simp only [Ex.sz] at hl⊢;have dY:args.length<=2:=by rw[h3];unfold jr;split<;>(try split)<;>omega
  have eY:Rn F X 74 0 (hY p code++[.sl (Ex.ss args)]) (pr p code (Ex.fF args)):=by
   have loop:∀(aa V:List Fl.Ex),args=V++aa->∀fm,gz fm->code.length<=fm.length->fm.length<=code.length+Ex.fF V->Rn F X 74 1 ([.sl (Ex.ss args),jD args.length,jD V.length]++hY p fm) (pr p code (Ex.fF args)):=by
    intro aa
    induction aa with
    |nil=>
     intro V aI fm mL q1 q2;rw[xj] at aI;subst aI;obtain⟨f,hs,own,vars,tables,flags,params⟩:=p;exact wr Y<|m6<|wn Y af<|wt Y ⟨fm,rfl,mL,q1,q2⟩
    |cons a aa cS=>
     intro V aI fm mL q1 q2;have aE:=bC aI;have ao:(Ex.ss args)[V.length]? =some (Ex.s a):=by rw[aI];exact qe _ _ _
     have aV:Ex.fF args=Ex.fF V+(a.sz+Ex.fF aa):=by
      rw[aI];clear aE ao cS q2 aI
      induction V with
      |nil=>simp[Ex.fF]
      |cons x V ihp=>simp only [c_,Ex.fF,ihp];omega
     have c1:=ih a (by rw[aI];simp) (code:=fm) mL MK;have next:=cS (V++[a]) (by rw[aI,bA]);rw[Ex.VO,xa] at next;obtain⟨o1,n1,i1,a1⟩:=a;obtain⟨f,hs,own,vars,tables,flags,params⟩:=p;refine wr Y<|m6<|wy Y af<|wo Y (ax ao Y)<|wg 1 Y<|gI<|wg 1 Y<|wx Y c1 fun|_,⟨bj,rfl,bM,q3,q4⟩=>⟨Y,?_⟩
     exact pc<|wo Y oA<|b_ Y (next bj bM MK MK)
   have:=loop args [] rfl code hc MK (by simp[Ex.fF]);obtain⟨f,hs,own,vars,tables,flags,params⟩:=p;exact wr Y<|wo Y (au (gf _))<|wj this
  have fin:∀{bj:Ca} {r:Di},gz bj->code.length<=bj.length->bj.length<=code.length+Ex.fF args->rf bj.length r->pr p code (Ex.fF args+1) (hY p (bj++[r])):=fun h1 h2 h3 h4=>⟨_,rfl,h1.snoc h4,by rw[xa];omega,by rw[xa];show _+1<=_;omega⟩
  have cn:=fun(bj:Ca) (h:gz bj) (hl:bj.length<=100000)=>aI7 (X:=X) hp h hl name
  have hn8:(0:Int)<=n/\(n:Int)<=8:=MK
  obtain⟨f,hs,own,vars,tables,flags,params⟩:=p;have tZ:op=1\/op=2\/op=3\/op=4\/op=5\/op=6\/op=7\/op=8\/9<=op:=MK
  rcases tZ with rfl|rfl|rfl|rfl|rfl|rfl|rfl|rfl|tZ
  ·refine wr Y<|dW<|wg 1 Y<|wx Y eY fun|_,⟨bj,rfl,bM,q1,q2⟩=>⟨Y,?_⟩
   exact nQ<|wg 3 Y<|wo Y oP<|wo Y (au (n:=bj.length+1) NS)<|wo Y (rP MK)<|pc<|wt Y (fin bM q1 q2 (mm MK MK MK))
  ·refine wr Y<|dW<|wg 1 Y<|wx Y eY fun|_,⟨bj,rfl,bM,q1,q2⟩=>⟨Y,?_⟩
   exact nQ<|wg 4 Y<|wo Y oP<|wo Y (au (n:=bj.length+1) NS)<|wo Y (rP MK)<|pc<|wt Y (fin bM q1 q2 (mm MK MK MK))
  ·refine wr Y<|dW<|wg 1 Y<|wx Y eY fun|_,⟨bj,rfl,bM,q1,q2⟩=>⟨Y,?_⟩
   exact nQ<|wg 5 Y<|wo Y oP<|wo Y (au (n:=bj.length+1) NS)<|wo Y (rP MK)<|pc<|wt Y (fin bM q1 q2 (mm MK MK MK))
  ·refine wr Y<|dW<|wg 1 Y<|wx Y eY fun|_,⟨bj,rfl,bM,q1,q2⟩=>⟨Y,?_⟩
   exact nQ<|wg 6 Y<|wo Y oP<|wo Y (au (n:=bj.length+1) NS)<|wo Y (rP MK)<|pc<|wt Y (fin bM q1 q2 (mm MK MK MK))
  ·refine wr Y<|dW<|wg 1 Y<|wx Y eY fun|_,⟨bj,rfl,bM,q1,q2⟩=>⟨Y,?_⟩
   refine nQ<|wg 6 Y<|wx Y (cn bj bM MK) fun|_,⟨se,rfl,qM,q3,q4⟩=>⟨Y,?_⟩
   dsimp only [ew,Ex.r,St.r,c_,n_,kK,kJ,kI,kH,kG,Ex.s,hY];exact wt Y ⟨se,rfl,qM,MK,MK⟩
  ·refine wr Y<|dW<|wg 1 Y<|wx Y eY fun|_,⟨bj,rfl,bM,q1,q2⟩=>⟨Y,?_⟩
   refine nQ<|wg 7 Y<|wx Y (qd hp.t _) fun|_,⟨i1,rfl⟩=>⟨Y,?_⟩
   exact wg 2 Y<|wo Y oP<|wo Y (au (n:=bj.length+1) NS)<|pc<|wo Y (rP MK)<|wt Y (fin bM q1 q2 (mm MK MK MK))
  ·refine wr Y<|dW<|wg 1 Y<|wx Y eY fun|_,⟨bj,rfl,bM,q1,q2⟩=>⟨Y,?_⟩
   refine nQ<|wg 8 Y<|wx Y (qd hp.t _) fun|_,⟨i1,rfl⟩=>⟨Y,?_⟩
   exact wg 2 Y<|wo Y oP<|wo Y (au (n:=bj.length+1) NS)<|pc<|wo Y (rP MK)<|wt Y (fin bM q1 q2 (mm MK MK MK))
  ·refine wr Y<|dW<|wg 1 Y<|wx Y eY fun|_,⟨bj,rfl,bM,q1,q2⟩=>⟨Y,?_⟩
   refine nQ<|wg 9 Y<|wx Y (qd hp.t _) fun|_,⟨i1,rfl⟩=>⟨Y,?_⟩
   exact wg 2 Y<|wo Y oP<|wo Y (au (n:=bj.length+1) NS)<|pc<|wo Y (rP MK)<|wt Y (fin bM q1 q2 (mm MK MK MK))
  ·refine wr Y<|dW<|wg 1 Y<|wx Y eY fun|_,⟨bj,rfl,bM,q1,q2⟩=>⟨Y,?_⟩
   exact nQ<|wn Y ay<|wn Y ay<|wn Y ay<|wn Y ay<|wn Y ay<|wn Y ay<|wn Y ay<|wn Y ay<|wg 2 Y<|wo Y oP<|wo Y (au (n:=bj.length+1) NS)<|wo Y (rP MK)<|pc<|wt Y (fin bM q1 q2 (mm MK MK MK))
end
end
section
theorem az4(hp:p.Ok){l:List Fl.Ex}(dK:l.length<=3)(h:∀e∈l,jo gO e/\e.dp<=6)(hc:gz code)(hl:code.length<=50000):Rn F X 74 0 (hY p code++[.sl (Ex.ss l)]) (pr p code (63*l.length)):=by
 have loop:∀(aa V:List Fl.Ex),l=V++aa->∀fm,gz fm->code.length<=fm.length->fm.length<=code.length+63*V.length->Rn F X 74 1 ([.sl (Ex.ss l),jD l.length,jD V.length]++hY p fm) (pr p code (63*l.length)):=by
  intro aa
  induction aa with
  |nil=>
   intro V aI fm mL q1 q2;rw[xj] at aI;subst aI;obtain⟨f,hs,own,vars,tables,flags,params⟩:=p;exact wr Y<|m6<|wn Y af<|wt Y ⟨fm,rfl,mL,q1,q2⟩
  |cons a aa cS=>
   intro V aI fm mL q1 q2;have aE:=bC aI;have ao:(Ex.ss l)[V.length]? =some (Ex.s a):=by rw[aI];exact qe _ _ _
   have ha:=h a (by rw[aI];simp);have aV:=ha.1.LS ha.2;have c1:=aI8 (X:=X) hp ha.1 mL MK;have next:=cS (V++[a]) (by rw[aI,bA]);rw[xa] at next;have e1:V.length+[a].length=V.length+1:=rfl;rw[e1] at next;obtain⟨o1,n1,i1,a1⟩:=a;obtain⟨f,hs,own,vars,tables,flags,params⟩:=p;refine wr Y<|m6<|wy Y af<|wo Y (ax ao Y)<|wg 1 Y<|gI<|wg 1 Y<|wx Y c1 fun|_,⟨bj,rfl,bM,q3,q4⟩=>⟨Y,?_⟩
   exact pc<|wo Y oA<|b_ Y (next bj bM MK MK)
 have:=loop l [] rfl code hc MK NS;obtain⟨f,hs,own,vars,tables,flags,params⟩:=p;exact wr Y<|wo Y (au (gf _))<|wj this
theorem at4{f:dj}(hf:gU ar f){i:Nat}(hi:i<ar.length){hn:aq}{E T L:Ca}:Rn F X 71 0 [.sl (f.comps.map Cm.s),.ptr [bD k,.str [(97+i).toUInt8],.str hn,.sl E,.sl T,.sl L] 0] (·=[jD i]):=by
 have ww:=hf.n;have loop:∀(aa V:List Cm),f.comps=V++aa->V.length<=i->Rn F X 71 1 [.sl (f.comps.map Cm.s),.ptr [bD k,.str [(97+i).toUInt8],.str hn,.sl E,.sl T,.sl L] 0,jD f.comps.length,jD V.length] (·=[jD i]):=by
  intro aa
  induction aa with
  |nil=>
   intro V hp aN;rw[xj] at hp;have:V.length=f.comps.length:=by rw[hp]
   omega
  |cons a aa ih=>
   intro V hp aN;have aE:=bC hp;have ao:=cz (f:=Cm.s) hp;have iZ:=(hf.comps V.length a (vc hp)).name;by_cases hs:V.length=i
   ·obtain⟨a1,a2,a3⟩:=a;simp only at iZ;rw[hs] at iZ ao⊢;exact wr Y<|wy Y af<|wo Y (ax ao Y)<|wg 1 Y<|w8<|wg 2 Y<|Wp.dt Y jk iZ<|wt Y Y
   ·have next:=ih (V++[a]) (by rw[hp,bA]) Of;rw[xa] at next;have bo:a.name≠[(97+i).toUInt8]:=fun e=>hs (CA MK MK (by rw[<-iZ,e]))
    obtain⟨a1,a2,a3⟩:=a;simp only at bo;exact wr Y<|wy Y af<|wo Y (ax ao Y)<|wg 1 Y<|w8<|wg 2 Y<|Wp.c8 Y jk bo<|wo Y oA<|wj next
 exact wr Y<|wo Y (au (ch _ _))<|b_ Y (loop f.comps [] rfl NS)
structure SM (ar:Dw) (p:Cp):Prop where
 ok:p.Ok
 f:gU ar p.f
 hs:p.hs.length=ar.length
 hl:∀l∈p.hs,l.length<=1000
 own:p.own<p.hs.length
def OtQ(p:Cp)(code:Ca)(m:Nat)(o:Di):Prop:=∃(t:Int) (fm:Ca),o= .int .i64 t::hY p fm/\gz fm/\code.length<=fm.length/\fm.length<=code.length+m/\0<=t/\t<=fm.length
theorem aE1{l:JH}(hb:∀code,gz code->code.length+200*St.ns l<=40000->Rn F X 77 0 (hY p code++[.sl (St.ss l)]) (pr p code (200*St.ns l)))(hc:gz code)(hl:code.length+200*St.ns l+1<=40000):Rn F X 75 0 (hY p code++[.sl (St.ss l)]) (OtQ p code (200*St.ns l+1)):=by
 have lm:=mS l;rcases xI l.length with h0|h0
 ·obtain⟨f,hs,own,vars,tables,flags,params⟩:=p;exact wr Y<|wo Y (au (n:=l.length) (l9 _))<|wy Y ay<|wo Y bc<|wt Y ⟨_,code,rfl,hc,MK,MK,MK,MK⟩
 ·have jw:=hc.snoc (r:=[bD 27,.int .i64 0,.int .i64 0,.int .i64 0]) ⟨27,0,0,0,rfl,MK,fun _=>MK,fun _=>MK,MK,MK⟩;have b1:=hb _ jw (by rw[xa];show code.length+1+_<=_;omega);obtain⟨f,hs,own,vars,tables,flags,params⟩:=p;refine wr Y<|wo Y (au (n:=l.length) (l9 _))<|wn Y ay<|wg 2 Y<|wo Y oP<|dW<|wo Y (au (n:=code.length+1) NS)<|wo Y oW<|wo Y (au (n:=code.length+1) NS)<|wg 1 Y<|wx Y b1 fun|_,⟨bj,rfl,bM,q1,q2⟩=>⟨Y,?_⟩
  refine LJ<|wo Y bc ?_;rw[xa] at q1 q2;have q1:code.length+1<=bj.length:=q1;have q2:bj.length<=code.length+1+200*St.ns l:=q2;obtain⟨r,hr,bk⟩:=Ox bM (i:=code.length+1 - 1) MK (v:=bj.length);have qM:=bM.Q5 hr (v:=bj.length) MK MK;exact wy Y Yn<|wo Y bk<|wt Y ⟨_,_,rfl,qM,by rw[xt];omega,by rw[xt];omega,MK,by rw[xt];omega⟩
theorem nZ{rows:Ca}(h:rows.length=n):aF .iO [.sl rows,jD k]=some (.bool (decide (k<n))):=by rw[<-h];rfl
theorem uL{bj:Ca}{m:Nat}(h:gz bj)(h1:code.length<=bj.length)(h2:bj.length<=code.length+m):pr p code m (hY p bj):=⟨bj,rfl,h,h1,h2⟩
theorem KT{n:Int}(h0:0<=op/\op<=34)(h1:0<=a/\a<=L)(h2:0<=b/\b<=L)(h3:0<=n/\n<=8):rf L [.int .u8 op,.int .i64 a,.int .i64 b,.int .i64 n]:=by
 obtain⟨k,rfl⟩:=Int.eq_ofNat_of_zero_le h0.1;exact⟨k,a,b,n,rfl,MK,fun _=>h1,fun _=>h2,h3.1,h3.2⟩
theorem bu7{n:Int}(h0:op=33)(h3:0<=n/\n<=8):rf L [.int .u8 op,.int .i64 a,.int .i64 0,.int .i64 n]:=by
 subst h0;exact⟨33,a,0,n,rfl,MK,fun h=>MK,fun _=>MK,h3.1,h3.2⟩
theorem aI4(hp:SM ar p){w:Wd}(hw:w.Ok)(TF:w.ar=ar){B:JH->Prop}{s:St}(hs:lO w B s)(hn:s.n<=12)
 (hb:∀l:JH,(l=[]\/B l)->St.ns l<s.n->∀code,gz code->code.length+200*St.ns l<=40000->Rn F X 77 0 (hY p code++[.sl (St.ss l)]) (pr p code (200*St.ns l)))
 {code:Ca} (hc:gz code) (hl:code.length+200*s.n<=40000):Rn F X 76 0 (hY p code++St.s s) (pr p code (200*s.n)):=by
 have jI:=hs.node hw hn;have jw:=hc.snoc (r:=[.int .u8 29,.int .i64 0,.int .i64 0,.int .i64 0]) (mm MK MK MK);have ex:=fun(l:List Fl.Ex) (h1:l.length<=3) (h2:∀e∈l,jo gO e/\e.dp<=6)=>az4 (X:=X) hp.ok h1 h2 jw (by rw[xa];show code.length+1<=_;omega)
 have kD:(code++[[D.int .u8 29,D.int .i64 0,D.int .i64 0,D.int .i64 0]]).length=code.length+1:=NS
 have bS:=fun l h1 h2 (bj:Ca) h3 h4=>hb l h1 h2 bj h3 h4
 have oS:=fun l h1 h2 (bj:Ca) (h3:gz bj) (h4:bj.length+200*St.ns l+1<=40000)=>aE1 (X:=X) (p:=p) (l:=l) (hb l h1 h2) h3 h4
 have HO:=hp.ok;have lK:=hp.own;cases hs with
 | @mZ k h e he=>
  have lz:=ex [e] NS jI.ex;obtain⟨f,hs,own,vars,tables,flags,params⟩:=p;refine wr Y<|gV<|wg 2 Y<|wo Y oP<|wo Y (au kD)<|wo Y oW<|je<|wg 1 Y ?_
  (refine wx Y lz fun|_,⟨bj,rfl,bM,q1,q2⟩=>⟨Y,?_⟩;rw[kD] at q1 q2;try simp only [xi,xd] at q2)
  refine iW<|wg 2 Y<|wx Y (qd HO.v _) fun|_,⟨i1,rfl⟩=>⟨Y,?_⟩
  exact wg 2 Y<|wo Y oP<|wo Y (au (n:=bj.length+1) NS)<|kq<|wo Y oW<|wt Y (uL (bM.snoc (mm MK MK MK)) Of (by simp[St.n,St.ns] at*;omega))
 | @AN e he=>
  have lz:=ex [e] NS jI.ex;obtain⟨f,hs,own,vars,tables,flags,params⟩:=p;refine wr Y<|gV<|wg 2 Y<|wo Y oP<|wo Y (au kD)<|wo Y oW<|je<|wg 1 Y ?_
  (refine wx Y lz fun|_,⟨bj,rfl,bM,q1,q2⟩=>⟨Y,?_⟩;rw[kD] at q1 q2;try simp only [xi,xd] at q2)
  refine iW<|wg 2 Y<|wx Y (qd HO.v _) fun|_,⟨i1,rfl⟩=>⟨Y,?_⟩
  exact wg 2 Y<|wo Y oP<|wo Y (au (n:=bj.length+1) NS)<|kq<|wo Y oW<|wt Y (uL (bM.snoc (mm MK MK MK)) Of (by simp[St.n,St.ns] at*;omega))
 | @put h a b ha bP=>
  have lz:=ex [a,b] NS jI.ex;obtain⟨f,hs,own,vars,tables,flags,params⟩:=p;refine wr Y<|gV<|wg 2 Y<|wo Y oP<|wo Y (au kD)<|wo Y oW<|je<|wg 1 Y ?_
  (refine wx Y lz fun|_,⟨bj,rfl,bM,q1,q2⟩=>⟨Y,?_⟩;rw[kD] at q1 q2;try simp only [xi,xd] at q2)
  refine iW<|wg 3 Y<|wx Y (qd HO.t _) fun|_,⟨i1,rfl⟩=>⟨Y,?_⟩
  exact wg 2 Y<|wo Y oP<|wo Y (au (n:=bj.length+1) NS)<|kq<|wo Y oW<|wt Y (uL (bM.snoc (mm MK MK MK)) Of (by simp[St.n,St.ns] at*;omega))
 | @del h a ha=>
  have lz:=ex [a] NS jI.ex;obtain⟨f,hs,own,vars,tables,flags,params⟩:=p;refine wr Y<|gV<|wg 2 Y<|wo Y oP<|wo Y (au kD)<|wo Y oW<|je<|wg 1 Y ?_
  (refine wx Y lz fun|_,⟨bj,rfl,bM,q1,q2⟩=>⟨Y,?_⟩;rw[kD] at q1 q2;try simp only [xi,xd] at q2)
  refine iW<|wg 4 Y<|wx Y (qd HO.t _) fun|_,⟨i1,rfl⟩=>⟨Y,?_⟩
  exact wg 2 Y<|wo Y oP<|wo Y (au (n:=bj.length+1) NS)<|kq<|wo Y oW<|wt Y (uL (bM.snoc (mm MK MK MK)) Of (by simp[St.n,St.ns] at*;omega))
 | @cond e he th el h1 h2=>
  have lz:=ex [e] NS jI.ex;simp only [St.n] at hn hl⊢;obtain⟨f,hs,own,vars,tables,flags,params⟩:=p;refine wr Y<|gV<|wg 2 Y<|wo Y oP<|wo Y (au kD)<|wo Y oW<|je<|wg 1 Y ?_
  (refine wx Y lz fun|_,⟨bj,rfl,bM,q1,q2⟩=>⟨Y,?_⟩;rw[kD] at q1 q2;try simp only [xi,xd] at q2)
  refine iW<|wg 6 Y<|wo Y oP<|wo Y (au (n:=bj.length+1) NS)<|wo Y oW<|kq<|wg 1 Y ?_
  (refine wx Y (bS th (.inr h1) (by simp only [St.n];omega) _ (bM.snoc (KT MK MK MK MK)) Of) fun|_,⟨se,rfl,qM,q3,q4⟩=>⟨Y,?_⟩;rw[xa] at q3 q4)
  refine Hs<|wg 1 Y<|wx Y (oS el (.inr h2) (by simp only [St.n];omega) se qM (by simp at q3 q4;omega)) fun|_,⟨t,Z9,rfl,s6,q5,q6,q7,q8⟩=>⟨Y,?_⟩
  simp only [xi,xd] at q3 q4;obtain⟨r,hr,bk⟩:=Ox s6 (i:=bj.length+1 - 1) MK (v:=t);have BK:=s6.Q5 hr (v:=t) q7 q8;exact wy Y Yn<|wo Y bk<|wt Y ⟨_,rfl,BK,by rw[xt];omega,by rw[xt];omega⟩
 | @Du e he th h1=>
  have lz:=ex [e] NS jI.ex;simp only [St.n] at hn hl⊢;obtain⟨f,hs,own,vars,tables,flags,params⟩:=p;have uy:((code.length+1 - 1:Nat):Int)=(code.length:Int):=MK
  refine wr Y<|gV<|wg 2 Y<|wo Y oP<|wo Y (au kD)<|wo Y oW<|je<|wg 1 Y ?_
  (refine wx Y lz fun|_,⟨bj,rfl,bM,q1,q2⟩=>⟨Y,?_⟩;rw[kD] at q1 q2;try simp only [xi,xd] at q2)
  refine iW<|wg 7 Y<|wo Y oP<|wo Y (au (n:=bj.length+1) NS)<|wo Y oW<|kq<|wg 1 Y ?_
  (refine wx Y (bS th (.inr h1) (by simp only [St.n];omega) _ (bM.snoc (KT MK MK MK MK)) Of) fun|_,⟨se,rfl,qM,q3,q4⟩=>⟨Y,?_⟩;rw[xa] at q3 q4)
  refine Hs<|wg 2 Y ?_;simp only [xi,xd] at q3 q4;refine wo Y oP<|wo Y (au (n:=se.length+1) NS)<|wo Y oW<|Bm<|wo Y (au (n:=se.length+1) NS) ?_;have s6:gz (se++[[D.int .u8 27,jD (code.length+1 - 1),D.int .i64 0,D.int .i64 0]]):=qM.snoc (KT MK MK MK MK);have HK:(se++[[D.int .u8 27,jD (code.length+1 - 1),D.int .i64 0,D.int .i64 0]]).length=se.length+1:=NS
  obtain⟨r,hr,bk⟩:=Ox s6 (i:=bj.length+1 - 1) MK (v:=((se.length+1:Nat):Int));have BK:=s6.Q5 hr (v:=((se.length+1:Nat):Int)) MK MK;exact wy Y (nZ HK)<|wo Y bk<|wt Y ⟨_,rfl,BK,by rw[xt];omega,by rw[xt];omega⟩
 | @send i h n l cb hh es he fL=>
  have lz:=ex es (by have:=jI.ln;simp at this;omega) jI.ex;simp only [St.n] at hn hl⊢;obtain⟨f,hs,own,vars,tables,flags,params⟩:=p;have dU:es.length<=3:=by have:=jI.ln;simp at this;omega
  have Er:i<ar.length:=by rw[<-TF];exact iB cb
  have x71:=at4 (X:=X) hp.f Er (k:=6) (hn:=nm 104 h) (E:=Ex.ss es) (T:=[]) (L:=[]);have eA:i<hs.length:=by have:=hp.hs;simp only at this;omega
  have ao:(hs.map fun l=>[D.sl (strs l)])[i]? =some [.sl (strs hs[i])]:=by rw[xx,xc eA];rfl
  have RC:=hp.hl hs[i] (List.getElem_mem eA);have cq2:(((Ex.ss es).length:Nat):Int)=(es.length:Int):=by rw[gf]
  refine wr Y<|gV<|wg 2 Y<|wo Y oP<|wo Y (au kD)<|wo Y oW<|je<|wg 1 Y ?_
  (refine wx Y lz fun|_,⟨bj,rfl,bM,q1,q2⟩=>⟨Y,?_⟩;rw[kD] at q1 q2;try simp only [xi,xd] at q2)
  refine iW<|wg 8 Y<|wL Y x71 rfl<|wo Y (ax ao Y)<|wg 1 Y<|kq<|wo Y (au (gf es))<|wg 1 Y<|wx Y (qd RC _) fun|_,⟨i9,rfl⟩=>⟨Y,?_⟩
  exact wg 2 Y<|wo Y oP<|mv<|wo Y (au (n:=bj.length+1) NS)<|wo Y oW<|wt Y (uL (bM.snoc (mm MK MK MK)) Of (by simp[St.n,St.ns] at*;omega))
 | @Bi h n l cb hh es he fL=>
  have lz:=ex es (by have:=jI.ln;simp at this;omega) jI.ex;simp only [St.n] at hn hl⊢;obtain⟨f,hs,own,vars,tables,flags,params⟩:=p;have dU:1<=es.length/\es.length<=3:=by have:=jI.ln;simp at this;omega
  have eA:own<hs.length:=lK;have ao:(hs.map fun l=>[D.sl (strs l)])[own]? =some [.sl (strs hs[own])]:=by rw[xx,xc eA];rfl
  have RC:=hp.hl hs[own] (List.getElem_mem eA);refine wr Y<|gV<|wg 2 Y<|wo Y oP<|wo Y (au kD)<|wo Y oW<|je<|wg 1 Y ?_
  (refine wx Y lz fun|_,⟨bj,rfl,bM,q1,q2⟩=>⟨Y,?_⟩;rw[kD] at q1 q2;try simp only [xi,xd] at q2)
  refine iW<|wg 7 Y<|wo Y (ax ao Y)<|wg 1 Y<|wo Y (au (gf es))<|wo Y oW<|kq<|wg 1 Y<|wx Y (qd RC _) fun|_,⟨i9,rfl⟩=>⟨Y,?_⟩
  exact wg 2 Y<|wo Y oP<|wo Y (au (n:=bj.length+1) NS)<|mv<|wo Y oW<|wt Y (uL (bM.snoc (mm MK MK MK)) Of (by simp[St.n,St.ns] at*;omega))
 | @store a b ha bP el h2=>
  have lz:=ex [a,b] NS jI.ex;simp only [St.n] at hn hl⊢;obtain⟨f,hs,own,vars,tables,flags,params⟩:=p;refine wr Y<|gV<|wg 2 Y<|wo Y oP<|wo Y (au kD)<|wo Y oW<|je<|wg 1 Y ?_
  (refine wx Y lz fun|_,⟨bj,rfl,bM,q1,q2⟩=>⟨Y,?_⟩;rw[kD] at q1 q2;try simp only [xi,xd] at q2)
  refine iW<|wg 10 Y<|wo Y oP<|wo Y (au (n:=bj.length+1) NS)<|wo Y oW<|kq<|wg 1 Y ?_
  (refine wx Y (oS el (.inr h2) (by simp only [St.n];omega) _ (bM.snoc (KT MK MK MK MK)) (by simp[St.ns] at hl⊢;omega)) fun|_,⟨t,Z9,rfl,s6,q5,q6,q7,q8⟩=>⟨Y,?_⟩;rw[xa] at q5 q6)
  refine Wp.dt Y qj (by(first|assumption|rfl)) ?_;simp only [xi,xd,St.ns] at q5 q6 hl⊢;obtain⟨r,hr,bk⟩:=Xa s6 (i:=bj.length+1 - 1) MK (v:=t);have BK:=s6.ab1 hr (v:=t) q7 q8;exact wo Y bk<|wt Y ⟨_,rfl,BK,by rw[xt];omega,by rw[xt];omega⟩
 | @Dg k h a ha el h2=>
  have lz:=ex [a] NS jI.ex;simp only [St.n] at hn hl⊢;obtain⟨f,hs,own,vars,tables,flags,params⟩:=p;refine wr Y<|gV<|wg 2 Y<|wo Y oP<|wo Y (au kD)<|wo Y oW<|je<|wg 1 Y ?_
  (refine wx Y lz fun|_,⟨bj,rfl,bM,q1,q2⟩=>⟨Y,?_⟩;rw[kD] at q1 q2;try simp only [xi,xd] at q2)
  refine iW<|wg 10 Y<|wx Y (qd HO.v _) fun|_,⟨i1,rfl⟩=>⟨Y,?_⟩
  refine wg 2 Y<|wo Y oP<|wo Y (au (n:=bj.length+1) NS)<|kq<|wo Y oW<|wg 1 Y ?_
  (refine wx Y (oS el (.inr h2) (by simp only [St.n];omega) _ (bM.snoc (bu7 rfl MK)) (by simp[St.ns] at hl⊢;omega)) fun|_,⟨t,Z9,rfl,s6,q5,q6,q7,q8⟩=>⟨Y,?_⟩;rw[xa] at q5 q6)
  refine Wp.dt Y qj (by(first|assumption|rfl)) ?_;simp only [xi,xd,St.ns] at q5 q6 hl⊢;obtain⟨r,hr,bk⟩:=Xa s6 (i:=bj.length+1 - 1) MK (v:=t);have BK:=s6.ab1 hr (v:=t) q7 q8;exact wo Y bk<|wt Y ⟨_,rfl,BK,by rw[xt];omega,by rw[xt];omega⟩
 |stop=>
  have lz:=ex [] NS jI.ex;obtain⟨f,hs,own,vars,tables,flags,params⟩:=p;refine wr Y<|gV<|wg 2 Y<|wo Y oP<|wo Y (au kD)<|wo Y oW<|je<|wg 1 Y ?_
  (refine wx Y lz fun|_,⟨bj,rfl,bM,q1,q2⟩=>⟨Y,?_⟩;rw[kD] at q1 q2;try simp only [xi,xd] at q2)
  exact iW<|wg 12 Y<|wo Y oP<|wo Y (au (n:=bj.length+1) NS)<|wo Y oW<|kq<|wt Y (uL (bM.snoc (mm MK MK MK)) Of (by simp[St.n,St.ns] at*;omega))
theorem cb0(hc:gz code):Rn F X 77 0 (hY p code++[.sl (St.ss [])]) (pr p code (200*St.ns [])):=by
 obtain⟨f,hs,own,vars,tables,flags,params⟩:=p;exact wr Y<|wo Y bc<|b_ Y<|wr Y<|wg 1 Y<|wt Y (uL hc MK MK)
theorem aJ0(hp:SM ar p){w:Wd}(hw:w.Ok)(TF:w.ar=ar):∀(m:Nat) (l:JH) (d:Nat),St.ns l<=m->m<=12->jQ w d l->∀code,gz code->code.length+200*St.ns l<=40000->Rn F X 77 0 (hY p code++[.sl (St.ss l)]) (pr p code (200*St.ns l)):=by
 intro m
 induction m with
 |zero=>
  intro l d hl _ _ code hc wD;have:=mS l;obtain rfl:l=[]:=xE.1 MK;obtain⟨f,hs,own,vars,tables,flags,params⟩:=p;exact wr Y<|wo Y bc<|b_ Y<|wr Y<|wg 1 Y<|wt Y (uL hc MK MK)
 |succ m ih=>
  intro l d hl hm hb code hc wD;have loop:∀(aa V:JH),l=V++aa->∀fm,gz fm->code.length<=fm.length->fm.length<=code.length+200*St.ns V->Rn F X 77 1 ([.sl (St.ss l),jD l.length,jD V.length]++hY p fm) (pr p code (200*St.ns l)):=by
   intro aa
   induction aa with
   |nil=>
    intro V aI fm mL q1 q2;rw[xj] at aI;subst aI;obtain⟨f,hs,own,vars,tables,flags,params⟩:=p;exact wr Y<|m6<|wn Y af<|wt Y (uL mL q1 q2)
   |cons a aa cS=>
    intro V aI fm mL q1 q2;have aE:=bC aI;have lm:=mS l;have ao:(St.ss l)[V.length]? =some (St.s a):=by rw[aI];exact uY _ _ _
    have lj:St.ns l=St.ns V+(St.n a+St.ns aa):=by rw[aI,St.vk];rfl
    have next:=cS (V++[a]) (by rw[aI,bA]);rw[xa,St.vk] at next;obtain⟨d,rfl⟩:∃x,d=x+1:=by
     cases d with
     |zero=>rw[show l=[] from hb] at aI;simp at aI
     |succ x=>exact⟨x,rfl⟩
    have hs:=hb a (by rw[aI];simp);have c1:=aI4 (X:=X) hp hw TF hs MK (fun l2 h2 fj bj bM aL=>by
     rcases h2 with rfl|h2
     ·exact cb0 bM
     ·exact ih l2 d MK MK h2 bj bM MK) mL MK
    obtain⟨kind,name,cf,bf,th,el⟩:=a;obtain⟨f,hs,own,vars,tables,flags,params⟩:=p;refine wr Y<|m6<|wy Y af<|wo Y (ax ao Y)<|wg 1 Y<|je<|wg 1 Y<|wx Y c1 fun|_,⟨bj,rfl,bM,q3,q4⟩=>⟨Y,?_⟩
    exact iW<|wo Y oA<|b_ Y (next bj bM MK (by simp only [St.ns] at*;omega))
  have:=loop l [] rfl code hc MK MK;obtain⟨f,hs,own,vars,tables,flags,params⟩:=p;exact wr Y<|wo Y (au (l9 _))<|wj this
end
section
theorem aW4{op:Nat}(h:op<=34):Rn F X 80 0 [bD op] (fun o=>∃(tx us:aq) (p q:Int),o=[.str tx,.str us,.int .i64 p,.int .i64 q]/\0<=p/\p<=2/\0<=q/\q<=1):=by
 have:op=0\/op=1\/op=2\/op=3\/op=4\/op=5\/op=6\/op=7\/op=8\/op=9\/op=10\/op=11\/op=12\/op=13\/op=14\/op=15\/op=16\/op=17\/op=18\/op=19\/op=20\/op=21\/op=22\/op=23\/op=24\/op=25\/op=26\/op=27\/op=28\/op=29\/op=30\/op=31\/op=32\/op=33\/op=34:=MK
 rcases this with rfl|rfl|rfl|rfl|rfl|rfl|rfl|rfl|rfl|rfl|rfl|rfl|rfl|rfl|rfl|rfl|rfl|rfl|rfl|rfl|rfl|rfl|rfl|rfl|rfl|rfl|rfl|rfl|rfl|rfl|rfl|rfl|rfl|rfl|rfl<;>
 exact Rn.of (fd:=RZ) (t:=bq8) rfl rfl rfl rfl (Wp.qQ Y Y (Wp.nz Y Y (o_ Y Y Y (wt Y ⟨_,_,_,_,rfl,MK,MK,MK,MK⟩))))
def hD(hs:List Int):Ca:=hs.map fun x=>[D.int .i64 x]
theorem JV{i:Nat}(h:i<hs.length):∃x,hs[i]? =some x/\(hD hs)[i]? =some [D.int .i64 x]:=⟨hs[i],xc h,by unfold hD;rw[xx,xc h];rfl⟩
theorem ba5(hs:List Int):(hD hs).length=hs.length:=xm _
theorem iA{i:Nat}{x:Int}(h:(hD hs)[i]? =some [D.int .i64 x]):aF (.pD 0 1 false) [.sl (hD hs),jD i]=some (.int .i64 x):=Fk h rfl
theorem CN{i:Nat}(h:i<hs.length){v:Int}:aF (.kj 0) [.sl (hD hs),jD i,.int .i64 v]=some (.sl (hD (hs.set i v))):=by
 obtain⟨x,_,hx⟩:=JV h;show((hD hs)[i]?).bind _=_;rw[hx];show some (D.sl ((hD hs).set i [D.int .i64 v]))=_;unfold hD;rw[List.map_set]
theorem fQ{i:Nat}:aF .iO [.sl (hD hs),jD i]=some (.bool (decide (i<hs.length))):=nZ (ba5 hs)
theorem rO{i:Nat}(bm:i<hs.length){v:Int}:Rn F X 82 0 [.sl (hD hs),jD i,.int .i64 v] (fun o=>∃b,o=[.bool b,.sl (hD (hs.set i v))]):=by
 obtain⟨x,hx,Bw⟩:=JV bm;refine wr Y<|Wp.dt Y fQ bm<|wo Y (iA Bw)<|d_ Y af ?_ ?_<;>intro h
 ·exact Wp.dt Y fQ bm<|wo Y (CN bm)<|wt Y ⟨_,rfl⟩
 ·refine Wp.dt Y fQ bm<|wo Y (iA Bw)<|d_ Y ay ?_ ?_<;>intro h
  ·exact Wp.dt Y fQ bm<|wo Y (CN bm)<|wt Y ⟨_,rfl⟩
  ·exact Wp.dt Y fQ bm<|wo Y (CN bm)<|wt Y ⟨_,rfl⟩
theorem av7{r:Di}(hr:rf L r):Rn F X 81 0 r (fun o=>(∃t:Nat,o=[jD t,.bool true]/\t<=L)\/o=[iD 0,.bool false]):=by
 obtain⟨op,a,b,n,rfl,h1,h2,h3,h4,h5⟩:=hr;by_cases q1:op=27\/op=28
 ·obtain⟨k,rfl⟩:=Int.eq_ofNat_of_zero_le (h2 q1).1;have:=(h2 q1).2;refine wr Y<|d_ Y ay ?_ ?_<;>intro h
  ·exact wt Y (.inl ⟨k,rfl,MK⟩)
  ·exact wy Y ay<|wt Y (.inl ⟨k,rfl,MK⟩)
 ·by_cases q2:op=32\/op=33
  ·obtain⟨k,rfl⟩:=Int.eq_ofNat_of_zero_le (h3 q2).1;have:=(h3 q2).2;refine wr Y<|wn Y ay<|wn Y ay<|d_ Y ay ?_ ?_<;>intro h
   ·exact wt Y (.inl ⟨k,rfl,MK⟩)
   ·exact wy Y ay<|wt Y (.inl ⟨k,rfl,MK⟩)
  ·exact wr Y<|wn Y ay<|wn Y ay<|wn Y ay<|wn Y ay<|wt Y (.inr Y)
theorem bk3(h:n<=100000):aF (.n0 1 8) [jD n,jD n,.int .i64 0]=some (.sl (List.replicate n [D.int .i64 0])):=by
 show(if _ then _ else none)=_;rw[i_ ⟨rfl,xk _,by simp[mX];omega⟩]
theorem Wp.two{f j i:Nat}{us:C3}{t t' e':DT}{ds env:Di}{x:D}{Q:Di->Prop}(h1:aH (aX (lk env)) us=some ds)(h2:Rn F X j 0 ds (fun o=>∃b,o=[.bool b,x]))(h3:x.cell=true)(hT:Wp F X i t (env++[.bool true,x]) Q)(hF:Wp F X i t' (env++[.bool false,x]) Q):Wp F X i (.call f j us [tt,no] t (.call f j us [ff,no] t' e')) env Q:=by
 obtain⟨_,ho,b,rfl⟩:=h2;cases b
 ·refine Wp.AG h1 ⟨_,ho,rfl⟩ rfl (Wp.ig h1 ⟨_,ho,rfl⟩ ?_ hF);show(true&& (x.cell&&true))=true;rw[h3];rfl
 ·refine Wp.ig h1 ⟨_,ho,rfl⟩ ?_ hT;show(true&& (x.cell&&true))=true;rw[h3];rfl
def HQ(o:Di):Prop:=∃(t:Int) (b:Bool),o=[.int .i64 t,.bool b]
theorem aX0:aF .mx [.int .i64 a,.int .i64 b]=some (.int .i64 (if a<b then b else a)):=rfl
theorem xX{c:Int}:aF .mx [.int .i64 a,.int .i64 b,.int .i64 c]=some (.int .i64 (if(if a<b then b else a)<c then c else(if a<b then b else a))):=rfl
theorem JS{m:Int}{i:Nat}{v:Int}(h:∀x∈hs,-1<=x/\x<=m)(hv: -1<=v/\v<=m):∀x∈hs.set i v,-1<=x/\x<=m:=fun x hx=>by
 rcases List.mem_or_eq_of_mem_set hx with hx|rfl
 ·exact h x hx
 ·exact hv
theorem rR{m m':Int}(h:∀x∈hs,-1<=x/\x<=m)(hm:m<=m'):∀x∈hs,-1<=x/\x<=m':=fun x hx=>by have:=h x hx;omega
theorem ao7(hc:gz code)(hl:code.length<=50000):∀(f i:Nat),i+f=code.length->∀(hs:List Int) (Bo:Int),hs.length=code.length+1->(∀x∈hs,-1<=x/\x<=i)->Rn F X 83 2 [.sl code,.int .i64 Bo,jD code.length,jD i,.sl (hD hs)] HQ:=by
 intro f
 induction f with
 |zero=>
  intro i hi hs Bo aL hx;obtain rfl:i=code.length:=MK
  obtain⟨x,_,Bw⟩:=JV (hs:=hs) (i:=code.length) MK;refine wr Y<|wn Y af<|wo Y bc<|wy Y fQ<|wo Y (iA Bw)<|d_ Y ke ?_ ?_<;>intro h
  ·exact wt Y ⟨_,_,rfl⟩
  ·exact wt Y ⟨_,_,rfl⟩
 |succ f ih=>
  intro i hi hs Bo aL hx;have nT:i<code.length:=MK
  obtain⟨x,qE,Bw⟩:=JV (hs:=hs) (i:=i) MK;have S9:=hx x (xu qE);have eS:=hc code[i] (List.getElem_mem nT);have ao:code[i]? =some code[i]:=xc nT;have ht:=av7 (X:=X) eS;obtain⟨op,a,b,n,e,h1,h2,h3,h4,h5⟩:=eS;rw[e] at ao ht;have ae1:=aW4 (X:=X) h1;obtain⟨y,hy,hyx⟩:∃y:Int,(if x<0 then 0 else x)=y/\0<=y/\y<=i:=⟨_,rfl,by split<;>omega⟩;have cJ:∀z∈hs.set i y,-1<=z/\z<=i:=JS hx MK;have dK:(hs.set i y).length=code.length+1:=by rw[xt];exact aL
  have jY:(hD (hs.set i y))[i]? =some [D.int .i64 y]:=by unfold hD;rw[xx,List.getElem?_set_self MK];rfl
  have hm:aF .mx [.int .i64 x,.int .i64 0]=some (.int .i64 y):=by rw[aX0,hy]
  have du:∀(jZ:List Int) (Bo:Int),jZ.length=code.length+1->(∀z∈jZ,-1<=z/\z<=((i+1:Nat):Int))->Rn F X 83 2 [.sl code,.int .i64 Bo,jD code.length,jD (i+1),.sl (hD jZ)] HQ:=fun jZ Bo h1 h2=>ih (i+1) MK jZ Bo h1 h2
  have mH:∀(v:Int) (k:Nat),-1<=v/\v<=((i+1:Nat):Int)->(∀z∈(hs.set i y).set k v,-1<=z/\z<=((i+1:Nat):Int)):=fun v k hv=>JS (rR cJ MK) hv
  have pn:∀(v:Int) (k k':Nat),-1<=v/\v<=((i+1:Nat):Int)->(∀z∈((hs.set i y).set k v).set k' v,-1<=z/\z<=((i+1:Nat):Int)):=fun v k k' hv=>JS (mH v k hv) hv
  obtain⟨_,ho,hq⟩:=ht;rcases hq with⟨t,rfl,htL⟩|rfl
  ·have tj:Rn F X 81 0 [bD op,.int .i64 a,.int .i64 b,.int .i64 n] (·=[jD t,.bool true]):=⟨_,ho,rfl⟩;refine wr Y<|wy Y af<|wo Y (ax ao Y)<|wg 1 Y<|nR<|wy Y fQ<|wo Y (iA Bw)<|wo Y hm<|wy Y fQ<|wo Y (CN MK)<|wg 1 Y<|wx Y ae1 fun|_,⟨tx,us,pp,qq,rfl,p0,p1,r0,r1⟩=>⟨Y,?_⟩
   refine gV<|d_ Y ay ?_ ?_<;>intro h
   ·refine wo Y oI<|wy Y fQ<|wo Y (iA jY)<|d_ Y af ?_ ?_<;>intro h
    ·exact wt Y ⟨_,_,rfl⟩
    ·refine wn Y ay<|wy Y fQ<|wo Y (iA jY)<|wo Y (rQ MK MK)<|je<|wo Y oI<|wy Y fQ<|wo Y (iA jY)<|wo Y xX<|wy Y gG<|wy Y gG<|wo Y oA<|vY<|wg 1 Y<|Wp.two Y (rO Pn) rfl ?_ ?_
     ·refine wl Y tj rfl<|wg 1 Y<|Wp.two Y (rO Pn) rfl ?_ ?_
      ·exact wo Y oA<|iW<|b_ Y (du _ _ (by first|exact dK|(rw[xt];exact dK)|(rw[xt,xt];exact dK)) (by first|exact rR cJ MK|exact mH _ _ MK|exact pn _ _ _ MK))
      ·exact wt Y ⟨_,_,rfl⟩
     ·exact wt Y ⟨_,_,rfl⟩
   ·refine d_ Y ay ?_ ?_<;>intro h
    ·refine wo Y oI<|wy Y fQ<|wo Y (iA jY)<|d_ Y af ?_ ?_<;>intro h
     ·exact wt Y ⟨_,_,rfl⟩
     ·refine wn Y ay<|wy Y fQ<|wo Y (iA jY)<|wo Y (rQ MK MK)<|je<|wo Y oI<|wy Y fQ<|wo Y (iA jY)<|wo Y xX<|wy Y gG<|wy Y gG<|wo Y oA<|vY<|wg 1 Y<|Wp.two Y (rO Pn) rfl ?_ ?_
      ·refine wl Y tj rfl<|wg 1 Y<|Wp.two Y (rO Pn) rfl ?_ ?_
       ·exact wo Y oA<|iW<|b_ Y (du _ _ (by first|exact dK|(rw[xt];exact dK)|(rw[xt,xt];exact dK)) (by first|exact rR cJ MK|exact mH _ _ MK|exact pn _ _ _ MK))
       ·exact wt Y ⟨_,_,rfl⟩
      ·exact wt Y ⟨_,_,rfl⟩
    ·refine wy Y fQ<|wo Y (iA jY)<|d_ Y af ?_ ?_<;>intro h
     ·exact wt Y ⟨_,_,rfl⟩
     ·refine d_ Y ay ?_ ?_<;>intro h
      ·refine wy Y fQ<|wo Y (iA jY)<|d_ Y gG ?_ ?_<;>intro h
       ·exact wt Y ⟨_,_,rfl⟩
       ·refine wy Y fQ<|wo Y (iA jY)<|wo Y (rQ MK MK)<|je<|wo Y oI<|wy Y fQ<|wo Y (iA jY)<|wo Y xX<|wy Y gG<|wn Y gG<|wl Y tj rfl<|nQ<|wg 1 Y<|Wp.two Y (rO Pn) rfl ?_ ?_
        ·exact wo Y oA<|b_ Y (du _ _ (by first|exact dK|(rw[xt];exact dK)|(rw[xt,xt];exact dK)) (by first|exact rR cJ MK|exact mH _ _ MK|exact pn _ _ _ MK))
        ·exact wt Y ⟨_,_,rfl⟩
      ·refine wy Y fQ<|wo Y (iA jY)<|wo Y (rQ MK MK)<|wo Y oI<|je<|wy Y fQ<|wo Y (iA jY)<|wo Y xX<|d_ Y gG ?_ ?_<;>intro h
       ·refine wy Y gG<|wo Y oA<|wg 1 Y<|Wp.two Y (rO Pn) rfl ?_ ?_
        ·refine wg 1 Y<|nQ<|wL Y tj rfl<|wg 1 Y<|Wp.two Y (rO Pn) rfl ?_ ?_
         ·exact wo Y oA<|b_ Y (du _ _ (by first|exact dK|(rw[xt];exact dK)|(rw[xt,xt];exact dK)) (by first|exact rR cJ MK|exact mH _ _ MK|exact pn _ _ _ MK))
         ·exact wt Y ⟨_,_,rfl⟩
        ·exact wt Y ⟨_,_,rfl⟩
       ·refine wl Y tj rfl<|wg 1 Y<|Wp.two Y (rO Pn) rfl ?_ ?_
        ·exact wo Y oA<|oa<|b_ Y (du _ _ (by first|exact dK|(rw[xt];exact dK)|(rw[xt,xt];exact dK)) (by first|exact rR cJ MK|exact mH _ _ MK|exact pn _ _ _ MK))
        ·exact wt Y ⟨_,_,rfl⟩
  ·have tj:Rn F X 81 0 [bD op,.int .i64 a,.int .i64 b,.int .i64 n] (·=[iD 0,.bool false]):=⟨_,ho,rfl⟩;refine wr Y<|wy Y af<|wo Y (ax ao Y)<|wg 1 Y<|nR<|wy Y fQ<|wo Y (iA Bw)<|wo Y hm<|wy Y fQ<|wo Y (CN MK)<|wg 1 Y<|wx Y ae1 fun|_,⟨tx,us,pp,qq,rfl,p0,p1,r0,r1⟩=>⟨Y,?_⟩
   refine gV<|d_ Y ay ?_ ?_<;>intro h
   ·refine wo Y oI<|wy Y fQ<|wo Y (iA jY)<|d_ Y af ?_ ?_<;>intro h
    ·exact wt Y ⟨_,_,rfl⟩
    ·refine wn Y ay<|wy Y fQ<|wo Y (iA jY)<|wo Y (rQ MK MK)<|je<|wo Y oI<|wy Y fQ<|wo Y (iA jY)<|wo Y xX<|wy Y gG<|wy Y gG<|wo Y oA<|vY<|wg 1 Y<|Wp.two Y (rO Pn) rfl ?_ ?_
     ·exact wl Y tj rfl<|wo Y oA<|b_ Y (du _ _ (by first|exact dK|(rw[xt];exact dK)|(rw[xt,xt];exact dK)) (by first|exact rR cJ MK|exact mH _ _ MK|exact pn _ _ _ MK))
     ·exact wt Y ⟨_,_,rfl⟩
   ·refine d_ Y ay ?_ ?_<;>intro h
    ·refine wo Y oI<|wy Y fQ<|wo Y (iA jY)<|d_ Y af ?_ ?_<;>intro h
     ·exact wt Y ⟨_,_,rfl⟩
     ·refine wn Y ay<|wy Y fQ<|wo Y (iA jY)<|wo Y (rQ MK MK)<|je<|wo Y oI<|wy Y fQ<|wo Y (iA jY)<|wo Y xX<|wy Y gG<|wy Y gG<|wo Y oA<|vY<|wg 1 Y<|Wp.two Y (rO Pn) rfl ?_ ?_
      ·exact wl Y tj rfl<|wo Y oA<|b_ Y (du _ _ (by first|exact dK|(rw[xt];exact dK)|(rw[xt,xt];exact dK)) (by first|exact rR cJ MK|exact mH _ _ MK|exact pn _ _ _ MK))
      ·exact wt Y ⟨_,_,rfl⟩
    ·refine wy Y fQ<|wo Y (iA jY)<|d_ Y af ?_ ?_<;>intro h
     ·exact wt Y ⟨_,_,rfl⟩
     ·refine d_ Y ay ?_ ?_<;>intro h
      ·refine wy Y fQ<|wo Y (iA jY)<|d_ Y gG ?_ ?_<;>intro h
       ·exact wt Y ⟨_,_,rfl⟩
       ·exact wy Y fQ<|wo Y (iA jY)<|wo Y (rQ MK MK)<|je<|wo Y oI<|wy Y fQ<|wo Y (iA jY)<|wo Y xX<|wy Y gG<|wn Y gG<|wl Y tj rfl<|nQ<|wo Y oA<|b_ Y (du _ _ (by first|exact dK|(rw[xt];exact dK)|(rw[xt,xt];exact dK)) (by first|exact rR cJ MK|exact mH _ _ MK|exact pn _ _ _ MK))
      ·refine wy Y fQ<|wo Y (iA jY)<|wo Y (rQ MK MK)<|wo Y oI<|je<|wy Y fQ<|wo Y (iA jY)<|wo Y xX<|d_ Y gG ?_ ?_<;>intro h
       ·refine wy Y gG<|wo Y oA<|wg 1 Y<|Wp.two Y (rO Pn) rfl ?_ ?_
        ·exact wg 1 Y<|nQ<|wL Y tj rfl<|wo Y oA<|b_ Y (du _ _ (by first|exact dK|(rw[xt];exact dK)|(rw[xt,xt];exact dK)) (by first|exact rR cJ MK|exact mH _ _ MK|exact pn _ _ _ MK))
        ·exact wt Y ⟨_,_,rfl⟩
       ·exact wl Y tj rfl<|wo Y oA<|nQ<|b_ Y (du _ _ (by first|exact dK|(rw[xt];exact dK)|(rw[xt,xt];exact dK)) (by first|exact rR cJ MK|exact mH _ _ MK|exact pn _ _ _ MK))
theorem at6(hc:gz code)(hl:code.length<=50000):Rn F X 83 0 [.sl code] HQ:=by
 have loop:∀(f i:Nat),i+f=code.length+1->∀(hs:List Int),hs.length=code.length+1->(∀x∈hs,-1<=x/\x<=0)->Rn F X 83 1 [.sl code,jD (code.length+1),jD i,.sl (hD hs)] HQ:=by
  intro f
  induction f with
  |zero=>
   intro i hi hs h1 h2;exact wr Y<|wn Y af<|wo Y bc<|b_ Y (ao7 hc hl code.length 0 MK hs 0 h1 h2)
  |succ f ih=>
   intro i hi hs h1 h2;have next:=ih (i+1) MK (hs.set i (-1)) (by rw[xt];exact h1) (JS h2 MK);exact wr Y<|wy Y af<|wy Y fQ<|wo Y (CN MK)<|wo Y oA<|wj next
 have e:hD (List.replicate (code.length+1) 0)=List.replicate (code.length+1) [D.int .i64 0]:=by unfold hD;rw[List.map_replicate]
 have h0:=loop (code.length+1) 0 MK (List.replicate (code.length+1) 0) NS (fun x hx=>by have:=List.eq_of_mem_replicate hx;omega);rw[e] at h0;exact wr Y<|wo Y bc<|wo Y oA<|wo Y (bk3 MK)<|wo Y (au (List.length_replicate))<|w5<|wj h0
end
structure Un where
 n:Nat
 t:Int
 c:Ca
abbrev uD(u:Un):Di:=[jD u.n,.int .i64 u.t,.sl u.c]
section
variable{f:dj}{hss:List (List aq)}{i:Nat}{c:Cm}{al:Es}{ints tables:Nat}
structure PO (f:dj) (hss:List (List aq)) (i:Nat) (p:Cp):Prop where
 f:p.f=f
 hs:p.hs=hss
 own:p.own=i
 v:p.vars.length<=1000
 t:p.tables.length<=1000
 fl:p.flags.length<=1000
def UQ(f:dj)(hss:List (List aq))(i:Nat)(o:Di):Prop:=∃u p' fm,o=uD u++hY p' fm/\PO f hss i p'
theorem Ol(hf:gU ar f)(hh:hss.length=ar.length)(oE:∀l∈hss,l.length<=1000)(aR:ar[i]? =some al)(i3:ints<=3)(t1:tables<=1){h:Hn}(ho:rq ints tables f.flags.length i ar al k h)(hp:PO f hss i p):Rn F X 78 0 (hY p code++h.s) (UQ f hss i):=by
 obtain⟨m,hm,mI,hb⟩:=ho.lW;have cP:=hf.ji;have j4:=(cP al (xu aR)).2.2 m (xu hm);have gK:=ho.n;have hn:=hf.n;obtain⟨pf,qD,own,vars,On,flags,params⟩:=p;obtain⟨e1,e2,e3,v1,v2,v3⟩:=hp;simp only at e1 e2 e3 v1 v2 v3;subst e1;subst e2;subst e3;obtain⟨h1,h2,h3⟩:=h;simp only at mI hb gK;have jf:h2.length=m:=by rw[mI];simp[aP]
 have fW:(strs h2).length=h2.length:=xm _;have Ey:SM ar ⟨pf,qD,own,vars,On,flags,h2⟩:=⟨⟨v1,v2,v3,by show h2.length<=1000;omega⟩,hf,hh,oE,by show own<qD.length;rw[hh];exact iB aR⟩;have c1:=aJ0 (X:=X) Ey (w:=⟨⟨ints,tables,pf.flags.length,m⟩,ar,own⟩) ⟨⟨i3,t1,hf.flags.1,j4⟩,hn.2.2,fun l h=>(cP l h).2⟩ rfl 12 h3 4 gK (xk _) hb [] (fun r h=>by cases h) Of;refine wr Y<|m6<|wg 1 Y<|wx Y c1 fun|_,⟨bj,rfl,bM,q1,q2⟩=>⟨Y,?_⟩
 refine vY<|wg 1 Y ?_;obtain⟨_,hq,t,b,rfl⟩:=at6 (X:=X) bM (by simp at q2;omega);have c2:Rn F X 83 0 [.sl bj] (·=[.int .i64 t,.bool b]):=⟨_,hq,rfl⟩;cases b
 ·exact wL Y c2 Y<|wo Y (au fW)<|wt Y ⟨⟨h2.length,t,bj⟩,⟨pf,qD,own,vars,On,flags,h2⟩,bj,rfl,rfl,rfl,rfl,v1,v2,v3⟩
 ·exact wL Y c2 Y<|wo Y (au fW)<|wt Y ⟨⟨h2.length,t,bj⟩,⟨pf,qD,own,vars,On,flags,h2⟩,bj,rfl,rfl,rfl,rfl,v1,v2,v3⟩
theorem Cq(hn:n<=3)(hk:k<n):Rn F X 43 0 [.sl (strs (aP 104 n)),.str (nm 104 k)] (·=[iD k]):=(Co (X:=X) (l:=aP 104 n) (by simp[aP];omega) (nm 104 k)).mono fun o h=>by
 rcases h with⟨_,j,rfl,hj,he⟩|⟨fL,_⟩
 ·rw[aP,xx] at he;have qG:j<n:=by simpa[aP] using hj
  rw[List.getElem?_range qG] at he;have he:nm 104 j=nm 104 k:=by simpa using he
  rw[(qW MK MK MK MK he).2]
 ·exact absurd (Zd hk) fL
def CQ(f:dj)(hss:List (List aq))(Qi:L5)(o:Di):Prop:=∃(us fs:Ca) (p':Cp) (fm:Ca),o=[.sl (strs Qi),.sl us,.sl fs]++hY p' fm/\p'.f=f/\p'.hs=hss
theorem br4(hf:gU ar f)(hh:hss.length=ar.length)(oE:∀l∈hss,l.length<=1000)(aR:ar[i]? =some al)(i3:ints<=3)(t1:tables<=1)(hn:al.length=1)(dJ:c.aS.length<=2)(bH:∀l∈c.aS,1<=l.length/\l.length<=al.length/\∀k h,l[k]? =some h->rq ints tables f.flags.length i ar al k h):
 ∀(aa V:Mm),c.aS=V++aa->∀(p:Cp) (code:Ca),PO f hss i p->∀(U G:Ca),U.length=V.length->G.length=V.length->∀(u0:Un) (g0:Bool),Rn F X 79 3 ([.sl (ca c.aS),jD c.aS.length,jD V.length]++hY p code++[.sl (strs (aP 104 1)),.sl U,.sl G]++uD u0++[.bool g0]) (CQ f hss (aP 104 1)):=by
 intro aa
 induction aa with
 |nil=>
  intro V aI p code hp U G hU hG u0 g0;rw[xj] at aI;have hp':V.length=c.aS.length:=by rw[aI]
  exact wr Y<|je<|wn Y af<|wt Y ⟨U,G,p,code,rfl,hp.f,hp.hs⟩
 |cons v aa ih=>
  intro V aI p code hp U G hU hG u0 g0;have aE:=bC aI;have ao:(ca c.aS)[V.length]? =some [.sl (v.map Hn.s)]:=cz (f:=fun l:List Hn=>[D.sl (l.map Hn.s)]) aI;have hv:=bH v (by rw[aI];simp);have next:=ih (V++[v]) (by rw[aI,bA]);rw[xa] at next;have mg:∀(dV bq:List Hn),v=bq++dV->∀(p:Cp) (code:Ca),PO f hss i p->∀(u0:Un) (g0:Bool),Rn F X 79 6 ([.sl (ca c.aS),jD c.aS.length,jD V.length,.sl (v.map Hn.s),jD v.length,jD bq.length]++hY p code++[.sl (strs (aP 104 1)),.sl U,.sl G]++uD u0++[.bool g0]) (CQ f hss (aP 104 1)):=by
   intro dV
   induction dV with
   |nil=>
    intro bq bF p code hp u0 g0;rw[xj] at bF;subst bF;exact wr Y<|vZ<|wn Y af<|wg 3 Y<|wo Y oP<|wg 2 Y<|oa<|wg 1 Y<|wo Y oP<|wo Y oA<|b_ Y (next p code hp _ _ (by simp[hU]) (by simp[hG]) u0 g0)
   |cons h dV mB=>
    intro bq bF p code hp u0 g0;have vz:=bC bF;have gQ:=cz (f:=Hn.s) bF;have fA:=mB (bq++[h]) (by rw[bF,bA]);rw[xa] at fA;have ho:=hv.2.2 bq.length h (vc bF);have cU:=Ol (X:=X) hf hh oE aR i3 t1 ho hp (code:=code);have cI:=Cq (X:=X) (n:=1) (k:=bq.length) MK MK;rw[<-ho.name] at cI;obtain⟨h1,h2,h3⟩:=h;have hk:bq.length=0:=MK
    simp only at cI;have e3:bq.length+[(⟨h1,h2,h3⟩:Hn)].length=bq.length+1:=rfl;rw[e3] at fA;generalize bq.length=k at*;rcases hk with rfl
    ·refine wr Y<|vZ<|wy Y af<|wo Y (ax gQ rfl)<|wg 1 Y<|oa<|wl Y cI rfl<|wg 1 Y<|wx Y cU fun|_,⟨u,p2,bj,rfl,aO⟩=>⟨Y,?_⟩
     dsimp only [ew,Ex.r,St.r,c_,n_,kK,kJ,kI,kH,kG,Hn.s,hY];exact wo Y oA<|wj (fA p2 bj aO u true)
  exact wr Y<|je<|wy Y af<|wo Y (ax ao Y)<|wg 1 Y<|pP<|wo Y (au (ch _ _))<|wj (mg v [] rfl p code hp u0 g0)
theorem br3(hf:gU ar f)(hh:hss.length=ar.length)(oE:∀l∈hss,l.length<=1000)(aR:ar[i]? =some al)(i3:ints<=3)(t1:tables<=1)(hn:al.length=2)(dJ:c.aS.length<=2)(bH:∀l∈c.aS,1<=l.length/\l.length<=al.length/\∀k h,l[k]? =some h->rq ints tables f.flags.length i ar al k h):
 ∀(aa V:Mm),c.aS=V++aa->∀(p:Cp) (code:Ca),PO f hss i p->∀(U G:Ca),U.length=V.length->G.length=V.length->∀(u0 u1:Un) (g0 g1:Bool),Rn F X 79 4 ([.sl (ca c.aS),jD c.aS.length,jD V.length]++hY p code++[.sl (strs (aP 104 2)),.sl U,.sl G]++uD u0++uD u1++[.bool g0,.bool g1]) (CQ f hss (aP 104 2)):=by
 intro aa
 induction aa with
 |nil=>
  intro V aI p code hp U G hU hG u0 u1 g0 g1;rw[xj] at aI;have hp':V.length=c.aS.length:=by rw[aI]
  exact wr Y<|vY<|wn Y af<|wt Y ⟨U,G,p,code,rfl,hp.f,hp.hs⟩
 |cons v aa ih=>
  intro V aI p code hp U G hU hG u0 u1 g0 g1;have aE:=bC aI;have ao:(ca c.aS)[V.length]? =some [.sl (v.map Hn.s)]:=cz (f:=fun l:List Hn=>[D.sl (l.map Hn.s)]) aI;have hv:=bH v (by rw[aI];simp);have next:=ih (V++[v]) (by rw[aI,bA]);rw[xa] at next;have mg:∀(dV bq:List Hn),v=bq++dV->∀(p:Cp) (code:Ca),PO f hss i p->∀(u0 u1:Un) (g0 g1:Bool),Rn F X 79 7 ([.sl (ca c.aS),jD c.aS.length,jD V.length,.sl (v.map Hn.s),jD v.length,jD bq.length]++hY p code++[.sl (strs (aP 104 2)),.sl U,.sl G]++uD u0++uD u1++[.bool g0,.bool g1]) (CQ f hss (aP 104 2)):=by
   intro dV
   induction dV with
   |nil=>
    intro bq bF p code hp u0 u1 g0 g1;rw[xj] at bF;subst bF;exact wr Y<|oa<|wn Y af<|wg 3 Y<|wo Y oP<|wg 2 Y<|iW<|wg 1 Y<|wo Y oP<|wo Y oA<|b_ Y (next p code hp _ _ (by simp[hU]) (by simp[hG]) u0 u1 g0 g1)
   |cons h dV mB=>
    intro bq bF p code hp u0 u1 g0 g1;have vz:=bC bF;have gQ:=cz (f:=Hn.s) bF;have fA:=mB (bq++[h]) (by rw[bF,bA]);rw[xa] at fA;have ho:=hv.2.2 bq.length h (vc bF);have cU:=Ol (X:=X) hf hh oE aR i3 t1 ho hp (code:=code);have cI:=Cq (X:=X) (n:=2) (k:=bq.length) MK MK;rw[<-ho.name] at cI;obtain⟨h1,h2,h3⟩:=h;have hk:bq.length=0\/bq.length=1:=MK
    simp only at cI;have e3:bq.length+[(⟨h1,h2,h3⟩:Hn)].length=bq.length+1:=rfl;rw[e3] at fA;generalize bq.length=k at*;rcases hk with rfl|rfl
    ·refine wr Y<|oa<|wy Y af<|wo Y (ax gQ rfl)<|wg 1 Y<|iW<|wl Y cI rfl<|wg 1 Y<|wx Y cU fun|_,⟨u,p2,bj,rfl,aO⟩=>⟨Y,?_⟩
     exact Hs<|wo Y oA<|wj (fA p2 bj aO u u1 true g1)
    ·refine wr Y<|oa<|wy Y af<|wo Y (ax gQ rfl)<|wg 1 Y<|iW<|wl Y cI rfl<|wg 1 Y<|wx Y cU fun|_,⟨u,p2,bj,rfl,aO⟩=>⟨Y,?_⟩
     exact Hs<|wo Y oA<|wj (fA p2 bj aO u0 u g0 true)
  exact wr Y<|vY<|wy Y af<|wo Y (ax ao Y)<|wg 1 Y<|jq<|wo Y (au (ch _ _))<|wj (mg v [] rfl p code hp u0 u1 g0 g1)
theorem br2(hf:gU ar f)(hh:hss.length=ar.length)(oE:∀l∈hss,l.length<=1000)(aR:ar[i]? =some al)(i3:ints<=3)(t1:tables<=1)(hn:al.length=3)(dJ:c.aS.length<=2)(bH:∀l∈c.aS,1<=l.length/\l.length<=al.length/\∀k h,l[k]? =some h->rq ints tables f.flags.length i ar al k h):
 ∀(aa V:Mm),c.aS=V++aa->∀(p:Cp) (code:Ca),PO f hss i p->∀(U G:Ca),U.length=V.length->G.length=V.length->∀(u0 u1 u2:Un) (g0 g1 g2:Bool),Rn F X 79 5 ([.sl (ca c.aS),jD c.aS.length,jD V.length]++hY p code++[.sl (strs (aP 104 3)),.sl U,.sl G]++uD u0++uD u1++uD u2++[.bool g0,.bool g1,.bool g2]) (CQ f hss (aP 104 3)):=by
 intro aa
 induction aa with
 |nil=>
  intro V aI p code hp U G hU hG u0 u1 u2 g0 g1 g2;rw[xj] at aI;have hp':V.length=c.aS.length:=by rw[aI]
  exact wr Y<|LJ<|wn Y af<|wt Y ⟨U,G,p,code,rfl,hp.f,hp.hs⟩
 |cons v aa ih=>
  intro V aI p code hp U G hU hG u0 u1 u2 g0 g1 g2;have aE:=bC aI;have ao:(ca c.aS)[V.length]? =some [.sl (v.map Hn.s)]:=cz (f:=fun l:List Hn=>[D.sl (l.map Hn.s)]) aI;have hv:=bH v (by rw[aI];simp);have next:=ih (V++[v]) (by rw[aI,bA]);rw[xa] at next;have mg:∀(dV bq:List Hn),v=bq++dV->∀(p:Cp) (code:Ca),PO f hss i p->∀(u0 u1 u2:Un) (g0 g1 g2:Bool),Rn F X 79 8 ([.sl (ca c.aS),jD c.aS.length,jD V.length,.sl (v.map Hn.s),jD v.length,jD bq.length]++hY p code++[.sl (strs (aP 104 3)),.sl U,.sl G]++uD u0++uD u1++uD u2++[.bool g0,.bool g1,.bool g2]) (CQ f hss (aP 104 3)):=by
   intro dV
   induction dV with
   |nil=>
    intro bq bF p code hp u0 u1 u2 g0 g1 g2;rw[xj] at bF;subst bF;exact wr Y<|iW<|wn Y af<|wg 3 Y<|wo Y oP<|wg 2 Y<|kq<|wg 1 Y<|wo Y oP<|wo Y oA<|b_ Y (next p code hp _ _ (by simp[hU]) (by simp[hG]) u0 u1 u2 g0 g1 g2)
   |cons h dV mB=>
    intro bq bF p code hp u0 u1 u2 g0 g1 g2;have vz:=bC bF;have gQ:=cz (f:=Hn.s) bF;have fA:=mB (bq++[h]) (by rw[bF,bA]);rw[xa] at fA;have ho:=hv.2.2 bq.length h (vc bF);have cU:=Ol (X:=X) hf hh oE aR i3 t1 ho hp (code:=code);have cI:=Cq (X:=X) (n:=3) (k:=bq.length) MK MK;rw[<-ho.name] at cI;obtain⟨h1,h2,h3⟩:=h;have hk:bq.length=0\/bq.length=1\/bq.length=2:=MK
    simp only at cI;have e3:bq.length+[(⟨h1,h2,h3⟩:Hn)].length=bq.length+1:=rfl;rw[e3] at fA;generalize bq.length=k at*;rcases hk with rfl|rfl|rfl
    ·refine wr Y<|iW<|wy Y af<|wo Y (ax gQ rfl)<|wg 1 Y<|kq<|wl Y cI rfl<|wg 1 Y<|wx Y cU fun|_,⟨u,p2,bj,rfl,aO⟩=>⟨Y,?_⟩
     exact Bm<|wo Y oA<|wj (fA p2 bj aO u u1 u2 true g1 g2)
    ·refine wr Y<|iW<|wy Y af<|wo Y (ax gQ rfl)<|wg 1 Y<|kq<|wl Y cI rfl<|wg 1 Y<|wx Y cU fun|_,⟨u,p2,bj,rfl,aO⟩=>⟨Y,?_⟩
     exact Bm<|wo Y oA<|wj (fA p2 bj aO u0 u u2 g0 true g2)
    ·refine wr Y<|iW<|wy Y af<|wo Y (ax gQ rfl)<|wg 1 Y<|kq<|wl Y cI rfl<|wg 1 Y<|wx Y cU fun|_,⟨u,p2,bj,rfl,aO⟩=>⟨Y,?_⟩
     exact Bm<|wo Y oA<|wj (fA p2 bj aO u0 u1 u g0 g1 true)
  exact wr Y<|LJ<|wy Y af<|wo Y (ax ao Y)<|wg 1 Y<|nP<|wo Y (au (ch _ _))<|wj (mg v [] rfl p code hp u0 u1 u2 g0 g1 g2)
end
end Go.Proofs.YthicpeihkkokmaaGreatDoor
