/- What these functions answer. -/
import Derived.Test.YthicpeihkkokmaaGreatDoorP5
set_option linter.unusedVariables false
set_option linter.unusedSimpArgs false
set_option maxHeartbeats 4000000
set_option maxRecDepth 100000
namespace Go.Fl
open Go.Ex
theorem _root_.Go.a0H{p:Prop}(h:p:=by first|omega|(rw[xt];omega)):p:=h
mutual
def Ex.sz:Ex->Nat| .mk _ _ _ args=>Ex.fT args+1
def Ex.fT:List Ex->Nat|[]=>0|e::l=>Ex.sz e+Ex.fT l
end
theorem Ex.W8:∀(l:List Ex) (a:Ex),Ex.fT (l++[a])=Ex.fT l+a.sz
 |[],a=>by simp[Ex.fT]
 |e::l,a=>by simp only [c_,Ex.fT,Ex.W8 l a];omega
theorem Ex.Y9{l:List Ex}{m:Nat}(h:∀a∈l,a.sz<=m):Ex.fT l<=l.length*m:=by
 induction l with
 |nil=>simp[Ex.fT]
 |cons a l ih=>
  have h1:=h a a0C;have h2:=ih (fun b hb=>h b (by simp[hb]));simp only [Ex.fT,xi,Nat.add_mul,Nat.one_mul];omega
theorem jK.sz{e:Ex}(h:jK gV e):e.sz+1<=2^e.dp:=by
 induction h with
 | @mk op name n args hn ha ih=>
  obtain⟨h1,h2,h3,h4,h5⟩:=hn.get;have ek:args.length<=2:=by rw[h3];unfold jM;split<;>(try split)<;>omega
  have hd:∀a∈args,a.sz+1<=2^Ex.eF args:=fun a ha=>xH (ih a ha) (Nat.pow_le_pow_right a0B (Ex.Kq ha))
  have h1:1<=2^Ex.eF args:=Nat.one_le_two_pow;simp only [Ex.sz,Ex.dp,Nat.pow_succ]
  match args,ek,hd with
  |[],_,_=>simp only [Ex.fT];omega
  |[a],_,hd=>have:=hd a a0C;simp only [Ex.fT];omega
  |[a,b],_,hd=>have:=hd a a0C;have:=hd b a0C;simp only [Ex.fT];omega
theorem jK.M2{e:Ex}(h:jK gV e)(hd:e.dp<=6):e.sz<=63:=by
 have:=h.sz;have:2^e.dp<=2^6:=Nat.pow_le_pow_right a0B hd;omega
end Go.Fl
namespace Go.Proofs.YthicpeihkkokmaaGreatDoor
open Go.Ex Go.RowKit Go.Fl
variable{X:a0a}{n L k:Nat}{op a b:Int}{p:Cp}{code:a0b}{ar:a0f}{hs:List Int}
section
section
theorem aZ5{l:a0s}{s:aq}{o:a0d}(h:TV l s o):∃i:Int,o=[.int .i64 i]:=by
 rcases h with⟨_,i,rfl,_⟩|⟨_,rfl⟩
 ·exact⟨i,rfl⟩
 ·exact⟨-1,rfl⟩
theorem qE{l:a0s}(hl:l.length<=1000)(s:aq):Rn F X 43 0 [.sl (strs l),.str s] (fun o=>∃i:Int,o=[.int .i64 i]):=(Dt hl s).mono fun _ h=>aZ5 h
theorem sP{c:Nat}(h:n<=1000000):aL (.bin .sub c) [jD n,.int .i64 1]=some (.int .i64 ((n:Int) - 1)):=sQ a0B a0B
theorem mN{n:Int}(h0:0<=op/\op<=34)(h2:op≠27/\op≠28/\op≠32/\op≠33)(h3:0<=n/\n<=8):rZ L [.int .u8 op,.int .i64 a,.int .i64 b,.int .i64 n]:=by
 obtain⟨k,rfl⟩:=Int.eq_ofNat_of_zero_le h0.1;exact bB4 a0B a0B h3.1 h3.2
theorem grow{r:a0d}(hc:gL code)(hr:rZ code.length r):pW p code 1 (il p (code++[r])):=⟨_,rfl,hc.snoc hr,a0C,a0C⟩
theorem aR3(hp:p.Ok)(hc:gL code)(hl:code.length<=100000)(s:aq):Rn F X 72 0 (il p code++[.str s]) (pW p code 1):=by
 obtain⟨f,hs,own,vars,tables,flags,params⟩:=p;refine wr Y<|wg 1 Y<|wx Y (qE hp.p _) fun|_,⟨i1,rfl⟩=>⟨Y,?_⟩
 refine d_ Y fp ?_ ?_<;>intro h
 ·exact wg 2 Y<|wo Y oP<|ei<|wo Y (az (n:=code.length+1) a0C)<|wo Y (sP a0B)<|wt Y (grow hc (mN a0B a0B a0B))
 ·refine wg 1 Y<|wx Y (qE hp.v _) fun|_,⟨i2,rfl⟩=>⟨Y,?_⟩
  refine d_ Y fp ?_ ?_<;>intro h
  ·exact wg 2 Y<|ei<|wo Y oP<|wo Y (az (n:=code.length+1) a0C)<|wo Y (sP a0B)<|wt Y (grow hc (mN a0B a0B a0B))
  ·refine wg 1 Y<|wx Y (qE hp.f _) fun|_,⟨i3,rfl⟩=>⟨Y,?_⟩
   exact ei<|wg 2 Y<|wo Y oP<|wo Y (az (n:=code.length+1) a0C)<|wo Y (sP a0B)<|gS<|wt Y (grow hc (mN a0B a0B a0B))
theorem aR5(hp:p.Ok){e:Fl.Ex}(h:jK gV e):∀{code:a0b},gL code->code.length+e.sz<=100000->Rn F X 73 0 (il p code++Ex.s e) (pW p code e.sz):=by
 induction h with
 | @mk op name n args hn ha ih=>
  intro code hc hl;obtain⟨h1,h2,h3,h4,h5⟩:=hn.get;simp only [Ex.sz] at hl⊢;have ek:args.length<=2:=by rw[h3];unfold jM;split<;>(try split)<;>omega
  have fx:Rn F X 74 0 (il p code++[.sl (Ex.ss args)]) (pW p code (Ex.fT args)):=by
   have loop:∀(aa V:List Fl.Ex),args=V++aa->∀fL,gL fL->code.length<=fL.length->fL.length<=code.length+Ex.fT V->Rn F X 74 1 ([.sl (Ex.ss args),jD args.length,jD V.length]++il p fL) (pW p code (Ex.fT args)):=by
    intro aa
    induction aa with
    |nil=>
     intro V aJ fL m5 q1 q2;rw[xj] at aJ;subst aJ;obtain⟨f,hs,own,vars,tables,flags,params⟩:=p;exact wr Y<|nL<|wn Y ai<|wt Y ⟨fL,rfl,m5,q1,q2⟩
    |cons a aa cX=>
     intro V aJ fL m5 q1 q2;have aD:=bG aJ;have ao:(Ex.ss args)[V.length]? =some (Ex.s a):=by rw[aJ];exact qF _ _ _
     have aS:Ex.fT args=Ex.fT V+(a.sz+Ex.fT aa):=by
      rw[aJ];clear aD ao cX q2 aJ
      induction V with
      |nil=>simp[Ex.fT]
      |cons x V ihp=>simp only [c_,Ex.fT,ihp];omega
     have c1:=ih a (by rw[aJ];simp) (code:=fL) m5 a0B;have next:=cX (V++[a]) (by rw[aJ,bw]);rw[Ex.W8,xa] at next;obtain⟨o1,n1,i1,a1⟩:=a;obtain⟨f,hs,own,vars,tables,flags,params⟩:=p;refine wr Y<|nL<|wy Y ai<|wo Y (aA ao Y)<|wg 1 Y<|gS<|wg 1 Y<|wx Y c1 fun|_,⟨bl,rfl,bF,q3,q4⟩=>⟨Y,?_⟩
     exact pH<|wo Y oA<|b_ Y (next bl bF a0B a0B)
   have:=loop args [] rfl code hc a0B (by simp[Ex.fT]);obtain⟨f,hs,own,vars,tables,flags,params⟩:=p;exact wr Y<|wo Y (az (gF _))<|wj this
  have fin:∀{bl:a0b} {r:a0d},gL bl->code.length<=bl.length->bl.length<=code.length+Ex.fT args->rZ bl.length r->pW p code (Ex.fT args+1) (il p (bl++[r])):=fun h1 h2 h3 h4=>⟨_,rfl,h1.snoc h4,by rw[xa];omega,by rw[xa];show _+1<=_;omega⟩
  have cn:=fun(bl:a0b) (h:gL bl) (hl:bl.length<=100000)=>aR3 (X:=X) hp h hl name
  have hn8:(0:Int)<=n/\(n:Int)<=8:=a0B
  obtain⟨f,hs,own,vars,tables,flags,params⟩:=p;have uV:op=1\/op=2\/op=3\/op=4\/op=5\/op=6\/op=7\/op=8\/9<=op:=a0B
  rcases uV with rfl|rfl|rfl|rfl|rfl|rfl|rfl|rfl|uV
  ·refine wr Y<|ei<|wg 1 Y<|wx Y fx fun|_,⟨bl,rfl,bF,q1,q2⟩=>⟨Y,?_⟩
   exact om<|wg 3 Y<|wo Y oP<|wo Y (az (n:=bl.length+1) a0C)<|wo Y (sP a0B)<|pH<|wt Y (fin bF q1 q2 (mN a0B a0B a0B))
  ·refine wr Y<|ei<|wg 1 Y<|wx Y fx fun|_,⟨bl,rfl,bF,q1,q2⟩=>⟨Y,?_⟩
   exact om<|wg 4 Y<|wo Y oP<|wo Y (az (n:=bl.length+1) a0C)<|wo Y (sP a0B)<|pH<|wt Y (fin bF q1 q2 (mN a0B a0B a0B))
  ·refine wr Y<|ei<|wg 1 Y<|wx Y fx fun|_,⟨bl,rfl,bF,q1,q2⟩=>⟨Y,?_⟩
   exact om<|wg 5 Y<|wo Y oP<|wo Y (az (n:=bl.length+1) a0C)<|wo Y (sP a0B)<|pH<|wt Y (fin bF q1 q2 (mN a0B a0B a0B))
  ·refine wr Y<|ei<|wg 1 Y<|wx Y fx fun|_,⟨bl,rfl,bF,q1,q2⟩=>⟨Y,?_⟩
   exact om<|wg 6 Y<|wo Y oP<|wo Y (az (n:=bl.length+1) a0C)<|wo Y (sP a0B)<|pH<|wt Y (fin bF q1 q2 (mN a0B a0B a0B))
  ·refine wr Y<|ei<|wg 1 Y<|wx Y fx fun|_,⟨bl,rfl,bF,q1,q2⟩=>⟨Y,?_⟩
   refine om<|wg 6 Y<|wx Y (cn bl bF a0B) fun|_,⟨tf,rfl,rB,q3,q4⟩=>⟨Y,?_⟩
   dsimp only [eA,Ex.r,St.r,c_,n_,lh,lg,k9,kZ,kY,Ex.s,il];exact wt Y ⟨tf,rfl,rB,a0B,a0B⟩
  ·refine wr Y<|ei<|wg 1 Y<|wx Y fx fun|_,⟨bl,rfl,bF,q1,q2⟩=>⟨Y,?_⟩
   refine om<|wg 7 Y<|wx Y (qE hp.t _) fun|_,⟨i1,rfl⟩=>⟨Y,?_⟩
   exact wg 2 Y<|wo Y oP<|wo Y (az (n:=bl.length+1) a0C)<|pH<|wo Y (sP a0B)<|wt Y (fin bF q1 q2 (mN a0B a0B a0B))
  ·refine wr Y<|ei<|wg 1 Y<|wx Y fx fun|_,⟨bl,rfl,bF,q1,q2⟩=>⟨Y,?_⟩
   refine om<|wg 8 Y<|wx Y (qE hp.t _) fun|_,⟨i1,rfl⟩=>⟨Y,?_⟩
   exact wg 2 Y<|wo Y oP<|wo Y (az (n:=bl.length+1) a0C)<|pH<|wo Y (sP a0B)<|wt Y (fin bF q1 q2 (mN a0B a0B a0B))
  ·refine wr Y<|ei<|wg 1 Y<|wx Y fx fun|_,⟨bl,rfl,bF,q1,q2⟩=>⟨Y,?_⟩
   refine om<|wg 9 Y<|wx Y (qE hp.t _) fun|_,⟨i1,rfl⟩=>⟨Y,?_⟩
   exact wg 2 Y<|wo Y oP<|wo Y (az (n:=bl.length+1) a0C)<|pH<|wo Y (sP a0B)<|wt Y (fin bF q1 q2 (mN a0B a0B a0B))
  ·refine wr Y<|ei<|wg 1 Y<|wx Y fx fun|_,⟨bl,rfl,bF,q1,q2⟩=>⟨Y,?_⟩
   exact om<|wn Y ay<|wn Y ay<|wn Y ay<|wn Y ay<|wn Y ay<|wn Y ay<|wn Y ay<|wn Y ay<|wg 2 Y<|wo Y oP<|wo Y (az (n:=bl.length+1) a0C)<|wo Y (sP a0B)<|pH<|wt Y (fin bF q1 q2 (mN a0B a0B a0B))
end
end
section
theorem aH8(hp:p.Ok){l:List Fl.Ex}(dQ:l.length<=3)(h:∀e∈l,jK gV e/\e.dp<=6)(hc:gL code)(hl:code.length<=50000):Rn F X 74 0 (il p code++[.sl (Ex.ss l)]) (pW p code (63*l.length)):=by
 have loop:∀(aa V:List Fl.Ex),l=V++aa->∀fL,gL fL->code.length<=fL.length->fL.length<=code.length+63*V.length->Rn F X 74 1 ([.sl (Ex.ss l),jD l.length,jD V.length]++il p fL) (pW p code (63*l.length)):=by
  intro aa
  induction aa with
  |nil=>
   intro V aJ fL m5 q1 q2;rw[xj] at aJ;subst aJ;obtain⟨f,hs,own,vars,tables,flags,params⟩:=p;exact wr Y<|nL<|wn Y ai<|wt Y ⟨fL,rfl,m5,q1,q2⟩
  |cons a aa cX=>
   intro V aJ fL m5 q1 q2;have aD:=bG aJ;have ao:(Ex.ss l)[V.length]? =some (Ex.s a):=by rw[aJ];exact qF _ _ _
   have ha:=h a (by rw[aJ];simp);have aS:=ha.1.M2 ha.2;have c1:=aR5 (X:=X) hp ha.1 m5 a0B;have next:=cX (V++[a]) (by rw[aJ,bw]);rw[xa] at next;have e1:V.length+[a].length=V.length+1:=rfl;rw[e1] at next;obtain⟨o1,n1,i1,a1⟩:=a;obtain⟨f,hs,own,vars,tables,flags,params⟩:=p;refine wr Y<|nL<|wy Y ai<|wo Y (aA ao Y)<|wg 1 Y<|gS<|wg 1 Y<|wx Y c1 fun|_,⟨bl,rfl,bF,q3,q4⟩=>⟨Y,?_⟩
   exact pH<|wo Y oA<|b_ Y (next bl bF a0B a0B)
 have:=loop l [] rfl code hc a0B a0C;obtain⟨f,hs,own,vars,tables,flags,params⟩:=p;exact wr Y<|wo Y (az (gF _))<|wj this
theorem aB3{f:dg}(hf:gZ ar f){i:Nat}(hi:i<ar.length){hn:aq}{E T L:a0b}:Rn F X 71 0 [.sl (f.comps.map Cm.s),.ptr [bD k,.str [(97+i).toUInt8],.str hn,.sl E,.sl T,.sl L] 0] (·=[jD i]):=by
 have yc:=hf.n;have loop:∀(aa V:List Cm),f.comps=V++aa->V.length<=i->Rn F X 71 1 [.sl (f.comps.map Cm.s),.ptr [bD k,.str [(97+i).toUInt8],.str hn,.sl E,.sl T,.sl L] 0,jD f.comps.length,jD V.length] (·=[jD i]):=by
  intro aa
  induction aa with
  |nil=>
   intro V hp aK;rw[xj] at hp;have:V.length=f.comps.length:=by rw[hp]
   omega
  |cons a aa ih=>
   intro V hp aK;have aD:=bG hp;have ao:=cA (f:=Cm.s) hp;have ii:=(hf.comps V.length a (v7 hp)).name;by_cases hs:V.length=i
   ·obtain⟨a1,a2,a3⟩:=a;simp only at ii;rw[hs] at ii ao⊢;exact wr Y<|wy Y ai<|wo Y (aA ao Y)<|wg 1 Y<|w8<|wg 2 Y<|Wp.dO Y jE ii<|wt Y Y
   ·have next:=ih (V++[a]) (by rw[hp,bw]) a0F;rw[xa] at next;have bq:a.name≠[(97+i).toUInt8]:=fun e=>hs (DI a0B a0B (by rw[<-ii,e]))
    obtain⟨a1,a2,a3⟩:=a;simp only at bq;exact wr Y<|wy Y ai<|wo Y (aA ao Y)<|wg 1 Y<|w8<|wg 2 Y<|Wp.dF Y jE bq<|wo Y oA<|wj next
 exact wr Y<|wo Y (az (cq _ _))<|b_ Y (loop f.comps [] rfl a0C)
structure TW (ar:a0f) (p:Cp):Prop where
 ok:p.Ok
 f:gZ ar p.f
 hs:p.hs.length=ar.length
 hl:∀l∈p.hs,l.length<=1000
 own:p.own<p.hs.length
def OtQ(p:Cp)(code:a0b)(m:Nat)(o:a0d):Prop:=∃(t:Int) (fL:a0b),o= .int .i64 t::il p fL/\gL fL/\code.length<=fL.length/\fL.length<=code.length+m/\0<=t/\t<=fL.length
theorem aM8{l:a0p}(hb:∀code,gL code->code.length+200*St.ns l<=40000->Rn F X 77 0 (il p code++[.sl (St.ss l)]) (pW p code (200*St.ns l)))(hc:gL code)(hl:code.length+200*St.ns l+1<=40000):Rn F X 75 0 (il p code++[.sl (St.ss l)]) (OtQ p code (200*St.ns l+1)):=by
 have kJ:=nj l;rcases xI l.length with h0|h0
 ·obtain⟨f,hs,own,vars,tables,flags,params⟩:=p;exact wr Y<|wo Y (az (n:=l.length) (mC _))<|wy Y ay<|wo Y bf<|wt Y ⟨_,code,rfl,hc,a0B,a0B,a0B,a0B⟩
 ·have js:=hc.snoc (r:=[bD 27,.int .i64 0,.int .i64 0,.int .i64 0]) ⟨27,0,0,0,rfl,a0B,fun _=>a0B,fun _=>a0B,a0B,a0B⟩;have b1:=hb _ js (by rw[xa];show code.length+1+_<=_;omega);obtain⟨f,hs,own,vars,tables,flags,params⟩:=p;refine wr Y<|wo Y (az (n:=l.length) (mC _))<|wn Y ay<|wg 2 Y<|wo Y oP<|ei<|wo Y (az (n:=code.length+1) a0C)<|wo Y oW<|wo Y (az (n:=code.length+1) a0C)<|wg 1 Y<|wx Y b1 fun|_,⟨bl,rfl,bF,q1,q2⟩=>⟨Y,?_⟩
  refine MW<|wo Y bf ?_;rw[xa] at q1 q2;have q1:code.length+1<=bl.length:=q1;have q2:bl.length<=code.length+1+200*St.ns l:=q2;obtain⟨r,hr,bg⟩:=PG bF (i:=code.length+1 - 1) a0B (v:=bl.length);have rB:=bF.Sf hr (v:=bl.length) a0B a0B;exact wy Y Zr<|wo Y bg<|wt Y ⟨_,_,rfl,rB,by rw[xt];omega,by rw[xt];omega,a0B,by rw[xt];omega⟩
theorem qH{rows:a0b}(h:rows.length=n):aL .jf [.sl rows,jD k]=some (.bool (decide (k<n))):=by rw[<-h];rfl
theorem vF{p:Cp}{code bl:a0b}{m:Nat}(h:gL bl)(h1:code.length<=bl.length)(h2:bl.length<=code.length+m):pW p code m (il p bl):=⟨bl,rfl,h,h1,h2⟩
theorem L9{n:Int}(h0:0<=op/\op<=34)(h1:0<=a/\a<=L)(h2:0<=b/\b<=L)(h3:0<=n/\n<=8):rZ L [.int .u8 op,.int .i64 a,.int .i64 b,.int .i64 n]:=by
 obtain⟨k,rfl⟩:=Int.eq_ofNat_of_zero_le h0.1;exact⟨k,a,b,n,rfl,a0B,fun _=>h1,fun _=>h2,h3.1,h3.2⟩
theorem bB5{n:Int}(h0:op=33)(h3:0<=n/\n<=8):rZ L [.int .u8 op,.int .i64 a,.int .i64 0,.int .i64 n]:=by
 subst h0;exact⟨33,a,0,n,rfl,a0B,fun h=>a0B,fun _=>a0B,h3.1,h3.2⟩
theorem aR0(hp:TW ar p){w:Wd}(hw:w.Ok)(UP:w.ar=ar){B:a0p->Prop}{s:St}(hs:ma w B s)(hn:s.n<=12)
 (hb:∀l:a0p,(l=[]\/B l)->St.ns l<s.n->∀code,gL code->code.length+200*St.ns l<=40000->Rn F X 77 0 (il p code++[.sl (St.ss l)]) (pW p code (200*St.ns l)))
 {code:a0b} (hc:gL code) (hl:code.length+200*s.n<=40000):Rn F X 76 0 (il p code++St.s s) (pW p code (200*s.n)):=by
 have jY:=hs.node hw hn;have js:=hc.snoc (r:=[.int .u8 29,.int .i64 0,.int .i64 0,.int .i64 0]) (mN a0B a0B a0B);have ex:=fun(l:List Fl.Ex) (h1:l.length<=3) (h2:∀e∈l,jK gV e/\e.dp<=6)=>aH8 (X:=X) hp.ok h1 h2 js (by rw[xa];show code.length+1<=_;omega)
 have kR:(code++[[D.int .u8 29,D.int .i64 0,D.int .i64 0,D.int .i64 0]]).length=code.length+1:=a0C
 have bS:=fun l h1 h2 (bl:a0b) h3 h4=>hb l h1 h2 bl h3 h4
 have oS:=fun l h1 h2 (bl:a0b) (h3:gL bl) (h4:bl.length+200*St.ns l+1<=40000)=>aM8 (X:=X) (p:=p) (l:=l) (hb l h1 h2) h3 h4
 have IY:=hp.ok;have kB:=hp.own;cases hs with
 | @nz k h e he=>
  have lV:=ex [e] a0C jY.ex;obtain⟨f,hs,own,vars,tables,flags,params⟩:=p;refine wr Y<|hZ<|wg 2 Y<|wo Y oP<|wo Y (az kR)<|wo Y oW<|jy<|wg 1 Y ?_
  (refine wx Y lV fun|_,⟨bl,rfl,bF,q1,q2⟩=>⟨Y,?_⟩;rw[kR] at q1 q2;try simp only [xi,xd] at q2)
  refine jn<|wg 2 Y<|wx Y (qE IY.v _) fun|_,⟨i1,rfl⟩=>⟨Y,?_⟩
  exact wg 2 Y<|wo Y oP<|wo Y (az (n:=bl.length+1) a0C)<|kF<|wo Y oW<|wt Y (vF (bF.snoc (mN a0B a0B a0B)) a0F (by simp[St.n,St.ns] at*;omega))
 | @BS e he=>
  have lV:=ex [e] a0C jY.ex;obtain⟨f,hs,own,vars,tables,flags,params⟩:=p;refine wr Y<|hZ<|wg 2 Y<|wo Y oP<|wo Y (az kR)<|wo Y oW<|jy<|wg 1 Y ?_
  (refine wx Y lV fun|_,⟨bl,rfl,bF,q1,q2⟩=>⟨Y,?_⟩;rw[kR] at q1 q2;try simp only [xi,xd] at q2)
  refine jn<|wg 2 Y<|wx Y (qE IY.v _) fun|_,⟨i1,rfl⟩=>⟨Y,?_⟩
  exact wg 2 Y<|wo Y oP<|wo Y (az (n:=bl.length+1) a0C)<|kF<|wo Y oW<|wt Y (vF (bF.snoc (mN a0B a0B a0B)) a0F (by simp[St.n,St.ns] at*;omega))
 | @put h a b ha bM=>
  have lV:=ex [a,b] a0C jY.ex;obtain⟨f,hs,own,vars,tables,flags,params⟩:=p;refine wr Y<|hZ<|wg 2 Y<|wo Y oP<|wo Y (az kR)<|wo Y oW<|jy<|wg 1 Y ?_
  (refine wx Y lV fun|_,⟨bl,rfl,bF,q1,q2⟩=>⟨Y,?_⟩;rw[kR] at q1 q2;try simp only [xi,xd] at q2)
  refine jn<|wg 3 Y<|wx Y (qE IY.t _) fun|_,⟨i1,rfl⟩=>⟨Y,?_⟩
  exact wg 2 Y<|wo Y oP<|wo Y (az (n:=bl.length+1) a0C)<|kF<|wo Y oW<|wt Y (vF (bF.snoc (mN a0B a0B a0B)) a0F (by simp[St.n,St.ns] at*;omega))
 | @del h a ha=>
  have lV:=ex [a] a0C jY.ex;obtain⟨f,hs,own,vars,tables,flags,params⟩:=p;refine wr Y<|hZ<|wg 2 Y<|wo Y oP<|wo Y (az kR)<|wo Y oW<|jy<|wg 1 Y ?_
  (refine wx Y lV fun|_,⟨bl,rfl,bF,q1,q2⟩=>⟨Y,?_⟩;rw[kR] at q1 q2;try simp only [xi,xd] at q2)
  refine jn<|wg 4 Y<|wx Y (qE IY.t _) fun|_,⟨i1,rfl⟩=>⟨Y,?_⟩
  exact wg 2 Y<|wo Y oP<|wo Y (az (n:=bl.length+1) a0C)<|kF<|wo Y oW<|wt Y (vF (bF.snoc (mN a0B a0B a0B)) a0F (by simp[St.n,St.ns] at*;omega))
 | @cond e he th el h1 h2=>
  have lV:=ex [e] a0C jY.ex;simp only [St.n] at hn hl⊢;obtain⟨f,hs,own,vars,tables,flags,params⟩:=p;refine wr Y<|hZ<|wg 2 Y<|wo Y oP<|wo Y (az kR)<|wo Y oW<|jy<|wg 1 Y ?_
  (refine wx Y lV fun|_,⟨bl,rfl,bF,q1,q2⟩=>⟨Y,?_⟩;rw[kR] at q1 q2;try simp only [xi,xd] at q2)
  refine jn<|wg 6 Y<|wo Y oP<|wo Y (az (n:=bl.length+1) a0C)<|wo Y oW<|kF<|wg 1 Y ?_
  (refine wx Y (bS th (.inr h1) (by simp only [St.n];omega) _ (bF.snoc (L9 a0B a0B a0B a0B)) a0F) fun|_,⟨tf,rfl,rB,q3,q4⟩=>⟨Y,?_⟩;rw[xa] at q3 q4)
  refine IB<|wg 1 Y<|wx Y (oS el (.inr h2) (by simp only [St.n];omega) tf rB (by simp at q3 q4;omega)) fun|_,⟨t,ag3,rfl,ud,q5,q6,q7,q8⟩=>⟨Y,?_⟩
  simp only [xi,xd] at q3 q4;obtain⟨r,hr,bg⟩:=PG ud (i:=bl.length+1 - 1) a0B (v:=t);have CO:=ud.Sf hr (v:=t) q7 q8;exact wy Y Zr<|wo Y bg<|wt Y ⟨_,rfl,CO,by rw[xt];omega,by rw[xt];omega⟩
 | @EB e he th h1=>
  have lV:=ex [e] a0C jY.ex;simp only [St.n] at hn hl⊢;obtain⟨f,hs,own,vars,tables,flags,params⟩:=p;have vo:((code.length+1 - 1:Nat):Int)=(code.length:Int):=a0B
  refine wr Y<|hZ<|wg 2 Y<|wo Y oP<|wo Y (az kR)<|wo Y oW<|jy<|wg 1 Y ?_
  (refine wx Y lV fun|_,⟨bl,rfl,bF,q1,q2⟩=>⟨Y,?_⟩;rw[kR] at q1 q2;try simp only [xi,xd] at q2)
  refine jn<|wg 7 Y<|wo Y oP<|wo Y (az (n:=bl.length+1) a0C)<|wo Y oW<|kF<|wg 1 Y ?_
  (refine wx Y (bS th (.inr h1) (by simp only [St.n];omega) _ (bF.snoc (L9 a0B a0B a0B a0B)) a0F) fun|_,⟨tf,rfl,rB,q3,q4⟩=>⟨Y,?_⟩;rw[xa] at q3 q4)
  refine IB<|wg 2 Y ?_;simp only [xi,xd] at q3 q4;refine wo Y oP<|wo Y (az (n:=tf.length+1) a0C)<|wo Y oW<|Cn<|wo Y (az (n:=tf.length+1) a0C) ?_;have ud:gL (tf++[[D.int .u8 27,jD (code.length+1 - 1),D.int .i64 0,D.int .i64 0]]):=rB.snoc (L9 a0B a0B a0B a0B);have Nq:(tf++[[D.int .u8 27,jD (code.length+1 - 1),D.int .i64 0,D.int .i64 0]]).length=tf.length+1:=a0C
  obtain⟨r,hr,bg⟩:=PG ud (i:=bl.length+1 - 1) a0B (v:=((tf.length+1:Nat):Int));have CO:=ud.Sf hr (v:=((tf.length+1:Nat):Int)) a0B a0B;exact wy Y (qH Nq)<|wo Y bg<|wt Y ⟨_,rfl,CO,by rw[xt];omega,by rw[xt];omega⟩
 | @send i h n l gx hh es he fy=>
  have lV:=ex es (by have:=jY.ln;simp at this;omega) jY.ex;simp only [St.n] at hn hl⊢;obtain⟨f,hs,own,vars,tables,flags,params⟩:=p;have dS:es.length<=3:=by have:=jY.ln;simp at this;omega
  have FF:i<ar.length:=by rw[<-UP];exact iR gx
  have x71:=aB3 (X:=X) hp.f FF (k:=6) (hn:=nm 104 h) (E:=Ex.ss es) (T:=[]) (L:=[]);have eC:i<hs.length:=by have:=hp.hs;simp only at this;omega
  have ao:(hs.map fun l=>[D.sl (strs l)])[i]? =some [.sl (strs hs[i])]:=by rw[xx,xc eC];rfl
  have SK:=hp.hl hs[i] (List.getElem_mem eC);have cx5:(((Ex.ss es).length:Nat):Int)=(es.length:Int):=by rw[gF]
  refine wr Y<|hZ<|wg 2 Y<|wo Y oP<|wo Y (az kR)<|wo Y oW<|jy<|wg 1 Y ?_
  (refine wx Y lV fun|_,⟨bl,rfl,bF,q1,q2⟩=>⟨Y,?_⟩;rw[kR] at q1 q2;try simp only [xi,xd] at q2)
  refine jn<|wg 8 Y<|wL Y x71 rfl<|wo Y (aA ao Y)<|wg 1 Y<|kF<|wo Y (az (gF es))<|wg 1 Y<|wx Y (qE SK _) fun|_,⟨i9,rfl⟩=>⟨Y,?_⟩
  exact wg 2 Y<|wo Y oP<|mR<|wo Y (az (n:=bl.length+1) a0C)<|wo Y oW<|wt Y (vF (bF.snoc (mN a0B a0B a0B)) a0F (by simp[St.n,St.ns] at*;omega))
 | @Ci h n l gx hh es he fy=>
  have lV:=ex es (by have:=jY.ln;simp at this;omega) jY.ex;simp only [St.n] at hn hl⊢;obtain⟨f,hs,own,vars,tables,flags,params⟩:=p;have dS:1<=es.length/\es.length<=3:=by have:=jY.ln;simp at this;omega
  have eC:own<hs.length:=kB;have ao:(hs.map fun l=>[D.sl (strs l)])[own]? =some [.sl (strs hs[own])]:=by rw[xx,xc eC];rfl
  have SK:=hp.hl hs[own] (List.getElem_mem eC);refine wr Y<|hZ<|wg 2 Y<|wo Y oP<|wo Y (az kR)<|wo Y oW<|jy<|wg 1 Y ?_
  (refine wx Y lV fun|_,⟨bl,rfl,bF,q1,q2⟩=>⟨Y,?_⟩;rw[kR] at q1 q2;try simp only [xi,xd] at q2)
  refine jn<|wg 7 Y<|wo Y (aA ao Y)<|wg 1 Y<|wo Y (az (gF es))<|wo Y oW<|kF<|wg 1 Y<|wx Y (qE SK _) fun|_,⟨i9,rfl⟩=>⟨Y,?_⟩
  exact wg 2 Y<|wo Y oP<|wo Y (az (n:=bl.length+1) a0C)<|mR<|wo Y oW<|wt Y (vF (bF.snoc (mN a0B a0B a0B)) a0F (by simp[St.n,St.ns] at*;omega))
 | @store a b ha bM el h2=>
  have lV:=ex [a,b] a0C jY.ex;simp only [St.n] at hn hl⊢;obtain⟨f,hs,own,vars,tables,flags,params⟩:=p;refine wr Y<|hZ<|wg 2 Y<|wo Y oP<|wo Y (az kR)<|wo Y oW<|jy<|wg 1 Y ?_
  (refine wx Y lV fun|_,⟨bl,rfl,bF,q1,q2⟩=>⟨Y,?_⟩;rw[kR] at q1 q2;try simp only [xi,xd] at q2)
  refine jn<|wg 10 Y<|wo Y oP<|wo Y (az (n:=bl.length+1) a0C)<|wo Y oW<|kF<|wg 1 Y ?_
  (refine wx Y (oS el (.inr h2) (by simp only [St.n];omega) _ (bF.snoc (L9 a0B a0B a0B a0B)) (by simp[St.ns] at hl⊢;omega)) fun|_,⟨t,ag3,rfl,ud,q5,q6,q7,q8⟩=>⟨Y,?_⟩;rw[xa] at q5 q6)
  refine Wp.dO Y qL (by(first|assumption|rfl)) ?_;simp only [xi,xd,St.ns] at q5 q6 hl⊢;obtain⟨r,hr,bg⟩:=Yj ud (i:=bl.length+1 - 1) a0B (v:=t);have CO:=ud.ah5 hr (v:=t) q7 q8;exact wo Y bg<|wt Y ⟨_,rfl,CO,by rw[xt];omega,by rw[xt];omega⟩
 | @Eo k h a ha el h2=>
  have lV:=ex [a] a0C jY.ex;simp only [St.n] at hn hl⊢;obtain⟨f,hs,own,vars,tables,flags,params⟩:=p;refine wr Y<|hZ<|wg 2 Y<|wo Y oP<|wo Y (az kR)<|wo Y oW<|jy<|wg 1 Y ?_
  (refine wx Y lV fun|_,⟨bl,rfl,bF,q1,q2⟩=>⟨Y,?_⟩;rw[kR] at q1 q2;try simp only [xi,xd] at q2)
  refine jn<|wg 10 Y<|wx Y (qE IY.v _) fun|_,⟨i1,rfl⟩=>⟨Y,?_⟩
  refine wg 2 Y<|wo Y oP<|wo Y (az (n:=bl.length+1) a0C)<|kF<|wo Y oW<|wg 1 Y ?_
  (refine wx Y (oS el (.inr h2) (by simp only [St.n];omega) _ (bF.snoc (bB5 rfl a0B)) (by simp[St.ns] at hl⊢;omega)) fun|_,⟨t,ag3,rfl,ud,q5,q6,q7,q8⟩=>⟨Y,?_⟩;rw[xa] at q5 q6)
  refine Wp.dO Y qL (by(first|assumption|rfl)) ?_;simp only [xi,xd,St.ns] at q5 q6 hl⊢;obtain⟨r,hr,bg⟩:=Yj ud (i:=bl.length+1 - 1) a0B (v:=t);have CO:=ud.ah5 hr (v:=t) q7 q8;exact wo Y bg<|wt Y ⟨_,rfl,CO,by rw[xt];omega,by rw[xt];omega⟩
 |stop=>
  have lV:=ex [] a0C jY.ex;obtain⟨f,hs,own,vars,tables,flags,params⟩:=p;refine wr Y<|hZ<|wg 2 Y<|wo Y oP<|wo Y (az kR)<|wo Y oW<|jy<|wg 1 Y ?_
  (refine wx Y lV fun|_,⟨bl,rfl,bF,q1,q2⟩=>⟨Y,?_⟩;rw[kR] at q1 q2;try simp only [xi,xd] at q2)
  exact jn<|wg 12 Y<|wo Y oP<|wo Y (az (n:=bl.length+1) a0C)<|wo Y oW<|kF<|wt Y (vF (bF.snoc (mN a0B a0B a0B)) a0F (by simp[St.n,St.ns] at*;omega))
theorem cb0(hc:gL code):Rn F X 77 0 (il p code++[.sl (St.ss [])]) (pW p code (200*St.ns [])):=by
 obtain⟨f,hs,own,vars,tables,flags,params⟩:=p;exact wr Y<|wo Y bf<|b_ Y<|wr Y<|wg 1 Y<|wt Y (vF hc a0B a0B)
theorem aR7(hp:TW ar p){w:Wd}(hw:w.Ok)(UP:w.ar=ar):∀(m:Nat) (l:a0p) (d:Nat),St.ns l<=m->m<=12->j8 w d l->∀code,gL code->code.length+200*St.ns l<=40000->Rn F X 77 0 (il p code++[.sl (St.ss l)]) (pW p code (200*St.ns l)):=by
 intro m
 induction m with
 |zero=>
  intro l d hl _ _ code hc vB;have:=nj l;obtain rfl:l=[]:=xE.1 a0B;obtain⟨f,hs,own,vars,tables,flags,params⟩:=p;exact wr Y<|wo Y bf<|b_ Y<|wr Y<|wg 1 Y<|wt Y (vF hc a0B a0B)
 |succ m ih=>
  intro l d hl hm hb code hc vB;have loop:∀(aa V:a0p),l=V++aa->∀fL,gL fL->code.length<=fL.length->fL.length<=code.length+200*St.ns V->Rn F X 77 1 ([.sl (St.ss l),jD l.length,jD V.length]++il p fL) (pW p code (200*St.ns l)):=by
   intro aa
   induction aa with
   |nil=>
    intro V aJ fL m5 q1 q2;rw[xj] at aJ;subst aJ;obtain⟨f,hs,own,vars,tables,flags,params⟩:=p;exact wr Y<|nL<|wn Y ai<|wt Y (vF m5 q1 q2)
   |cons a aa cX=>
    intro V aJ fL m5 q1 q2;have aD:=bG aJ;have kJ:=nj l;have ao:(St.ss l)[V.length]? =some (St.s a):=by rw[aJ];exact vV _ _ _
    have lR:St.ns l=St.ns V+(St.n a+St.ns aa):=by rw[aJ,St.wc];rfl
    have next:=cX (V++[a]) (by rw[aJ,bw]);rw[xa,St.wc] at next;obtain⟨d,rfl⟩:∃x,d=x+1:=by
     cases d with
     |zero=>rw[show l=[] from hb] at aJ;simp at aJ
     |succ x=>exact⟨x,rfl⟩
    have hs:=hb a (by rw[aJ];simp);have c1:=aR0 (X:=X) hp hw UP hs a0B (fun l2 h2 gf bl bF aW=>by
     rcases h2 with rfl|h2
     ·exact cb0 bF
     ·exact ih l2 d a0B a0B h2 bl bF a0B) m5 a0B
    obtain⟨kind,name,cf,bh,th,el⟩:=a;obtain⟨f,hs,own,vars,tables,flags,params⟩:=p;refine wr Y<|nL<|wy Y ai<|wo Y (aA ao Y)<|wg 1 Y<|jy<|wg 1 Y<|wx Y c1 fun|_,⟨bl,rfl,bF,q3,q4⟩=>⟨Y,?_⟩
    exact jn<|wo Y oA<|b_ Y (next bl bF a0B (by simp only [St.ns] at*;omega))
  have:=loop l [] rfl code hc a0B a0B;obtain⟨f,hs,own,vars,tables,flags,params⟩:=p;exact wr Y<|wo Y (az (mC _))<|wj this
end
section
theorem bg2{op:Nat}(h:op<=34):Rn F X 80 0 [bD op] (fun o=>∃(tx us:aq) (p q:Int),o=[.str tx,.str us,.int .i64 p,.int .i64 q]/\0<=p/\p<=2/\0<=q/\q<=1):=by
 have:op=0\/op=1\/op=2\/op=3\/op=4\/op=5\/op=6\/op=7\/op=8\/op=9\/op=10\/op=11\/op=12\/op=13\/op=14\/op=15\/op=16\/op=17\/op=18\/op=19\/op=20\/op=21\/op=22\/op=23\/op=24\/op=25\/op=26\/op=27\/op=28\/op=29\/op=30\/op=31\/op=32\/op=33\/op=34:=a0B
 rcases this with rfl|rfl|rfl|rfl|rfl|rfl|rfl|rfl|rfl|rfl|rfl|rfl|rfl|rfl|rfl|rfl|rfl|rfl|rfl|rfl|rfl|rfl|rfl|rfl|rfl|rfl|rfl|rfl|rfl|rfl|rfl|rfl|rfl|rfl|rfl<;>
 exact Rn.of (fd:=Ta) (t:=bz5) rfl rfl rfl rfl (Wp.rG Y Y (Wp.nV Y Y (Wp.aV Y Y Y (wt Y ⟨_,_,_,_,rfl,a0B,a0B,a0B,a0B⟩))))
def hD(hs:List Int):a0b:=hs.map fun x=>[D.int .i64 x]
theorem K0{i:Nat}(h:i<hs.length):∃x,hs[i]? =some x/\(hD hs)[i]? =some [D.int .i64 x]:=⟨hs[i],xc h,by unfold hD;rw[xx,xc h];rfl⟩
theorem bk5(hs:List Int):(hD hs).length=hs.length:=xm _
theorem iQ{i:Nat}{x:Int}(h:(hD hs)[i]? =some [D.int .i64 x]):aL (.qK 0 1 false) [.sl (hD hs),jD i]=some (.int .i64 x):=O6 h rfl
theorem DX{hs:List Int}{i:Nat}(h:i<hs.length){v:Int}:aL (.ky 0) [.sl (hD hs),jD i,.int .i64 v]=some (.sl (hD (hs.set i v))):=by
 obtain⟨x,_,hx⟩:=K0 h;show((hD hs)[i]?).bind _=_;rw[hx];show some (D.sl ((hD hs).set i [D.int .i64 v]))=_;unfold hD;rw[List.map_set]
theorem gm{i:Nat}:aL .jf [.sl (hD hs),jD i]=some (.bool (decide (i<hs.length))):=qH (bk5 hs)
theorem sO{i:Nat}(bk:i<hs.length){v:Int}:Rn F X 82 0 [.sl (hD hs),jD i,.int .i64 v] (fun o=>∃b,o=[.bool b,.sl (hD (hs.set i v))]):=by
 obtain⟨x,hx,Cz⟩:=K0 bk;refine wr Y<|Wp.dO Y gm bk<|wo Y (iQ Cz)<|d_ Y ai ?_ ?_<;>intro h
 ·exact Wp.dO Y gm bk<|wo Y (DX bk)<|wt Y ⟨_,rfl⟩
 ·refine Wp.dO Y gm bk<|wo Y (iQ Cz)<|d_ Y ay ?_ ?_<;>intro h
  ·exact Wp.dO Y gm bk<|wo Y (DX bk)<|wt Y ⟨_,rfl⟩
  ·exact Wp.dO Y gm bk<|wo Y (DX bk)<|wt Y ⟨_,rfl⟩
theorem aD7{r:a0d}(hr:rZ L r):Rn F X 81 0 r (fun o=>(∃t:Nat,o=[jD t,.bool true]/\t<=L)\/o=[iD 0,.bool false]):=by
 obtain⟨op,a,b,n,rfl,h1,h2,h3,h4,h5⟩:=hr;by_cases q1:op=27\/op=28
 ·obtain⟨k,rfl⟩:=Int.eq_ofNat_of_zero_le (h2 q1).1;have:=(h2 q1).2;refine wr Y<|d_ Y ay ?_ ?_<;>intro h
  ·exact wt Y (.inl ⟨k,rfl,a0B⟩)
  ·exact wy Y ay<|wt Y (.inl ⟨k,rfl,a0B⟩)
 ·by_cases q2:op=32\/op=33
  ·obtain⟨k,rfl⟩:=Int.eq_ofNat_of_zero_le (h3 q2).1;have:=(h3 q2).2;refine wr Y<|wn Y ay<|wn Y ay<|d_ Y ay ?_ ?_<;>intro h
   ·exact wt Y (.inl ⟨k,rfl,a0B⟩)
   ·exact wy Y ay<|wt Y (.inl ⟨k,rfl,a0B⟩)
  ·exact wr Y<|wn Y ay<|wn Y ay<|wn Y ay<|wn Y ay<|wt Y (.inr Y)
theorem bs8(h:n<=100000):aL (.n5 1 8) [jD n,jD n,.int .i64 0]=some (.sl (List.replicate n [D.int .i64 0])):=by
 show(if _ then _ else none)=_;rw[i_ ⟨rfl,xk _,by simp[mK];omega⟩]
theorem Wp.two{f j i:Nat}{us:a0e}{t t' e':DT}{ds env:a0d}{x:D}{Q:a0d->Prop}(h1:aI (aZ (lk env)) us=some ds)(h2:Rn F X j 0 ds (fun o=>∃b,o=[.bool b,x]))(h3:x.cell=true)(hT:Wp F X i t (env++[.bool true,x]) Q)(hF:Wp F X i t' (env++[.bool false,x]) Q):Wp F X i (.call f j us [tt,no] t (.call f j us [ff,no] t' e')) env Q:=by
 obtain⟨_,ho,b,rfl⟩:=h2;cases b
 ·refine Wp.HL h1 ⟨_,ho,rfl⟩ rfl (Wp.jU h1 ⟨_,ho,rfl⟩ ?_ hF);show(true&& (x.cell&&true))=true;rw[h3];rfl
 ·refine Wp.jU h1 ⟨_,ho,rfl⟩ ?_ hT;show(true&& (x.cell&&true))=true;rw[h3];rfl
def HQ(o:a0d):Prop:=∃(t:Int) (b:Bool),o=[.int .i64 t,.bool b]
theorem bg9:aL .mx [.int .i64 a,.int .i64 b]=some (.int .i64 (if a<b then b else a)):=rfl
theorem yO{c:Int}:aL .mx [.int .i64 a,.int .i64 b,.int .i64 c]=some (.int .i64 (if(if a<b then b else a)<c then c else(if a<b then b else a))):=rfl
theorem KX{m:Int}{i:Nat}{v:Int}(h:∀x∈hs,-1<=x/\x<=m)(hv: -1<=v/\v<=m):∀x∈hs.set i v,-1<=x/\x<=m:=fun x hx=>by
 rcases List.mem_or_eq_of_mem_set hx with hx|rfl
 ·exact h x hx
 ·exact hv
theorem sR{m m':Int}(h:∀x∈hs,-1<=x/\x<=m)(hm:m<=m'):∀x∈hs,-1<=x/\x<=m':=fun x hx=>by have:=h x hx;omega
theorem aw9(hc:gL code)(hl:code.length<=50000):∀(f i:Nat),i+f=code.length->∀(hs:List Int) (Cr:Int),hs.length=code.length+1->(∀x∈hs,-1<=x/\x<=i)->Rn F X 83 2 [.sl code,.int .i64 Cr,jD code.length,jD i,.sl (hD hs)] HQ:=by
 intro f
 induction f with
 |zero=>
  intro i hi hs Cr aW hx;obtain rfl:i=code.length:=a0B
  obtain⟨x,_,Cz⟩:=K0 (hs:=hs) (i:=code.length) a0B;refine wr Y<|wn Y ai<|wo Y bf<|wy Y gm<|wo Y (iQ Cz)<|d_ Y kv ?_ ?_<;>intro h
  ·exact wt Y ⟨_,_,rfl⟩
  ·exact wt Y ⟨_,_,rfl⟩
 |succ f ih=>
  intro i hi hs Cr aW hx;have ov:i<code.length:=a0B
  obtain⟨x,pL,Cz⟩:=K0 (hs:=hs) (i:=i) a0B;have Ui:=hx x (xu pL);have fb:=hc code[i] (List.getElem_mem ov);have ao:code[i]? =some code[i]:=xc ov;have ht:=aD7 (X:=X) fb;obtain⟨op,a,b,n,e,h1,h2,h3,h4,h5⟩:=fb;rw[e] at ao ht;have ak6:=bg2 (X:=X) h1;obtain⟨y,hy,hyx⟩:∃y:Int,(if x<0 then 0 else x)=y/\0<=y/\y<=i:=⟨_,rfl,by split<;>omega⟩;have cL:∀z∈hs.set i y,-1<=z/\z<=i:=KX hx a0B;have dQ:(hs.set i y).length=code.length+1:=by rw[xt];exact aW
  have kn:(hD (hs.set i y))[i]? =some [D.int .i64 y]:=by unfold hD;rw[xx,List.getElem?_set_self a0B];rfl
  have hm:aL .mx [.int .i64 x,.int .i64 0]=some (.int .i64 y):=by rw[bg9,hy]
  have cW:∀(ko:List Int) (Cr:Int),ko.length=code.length+1->(∀z∈ko,-1<=z/\z<=((i+1:Nat):Int))->Rn F X 83 2 [.sl code,.int .i64 Cr,jD code.length,jD (i+1),.sl (hD ko)] HQ:=fun ko Cr h1 h2=>ih (i+1) a0B ko Cr h1 h2
  have mX:∀(v:Int) (k:Nat),-1<=v/\v<=((i+1:Nat):Int)->(∀z∈(hs.set i y).set k v,-1<=z/\z<=((i+1:Nat):Int)):=fun v k hv=>KX (sR cL a0B) hv
  have pN:∀(v:Int) (k k':Nat),-1<=v/\v<=((i+1:Nat):Int)->(∀z∈((hs.set i y).set k v).set k' v,-1<=z/\z<=((i+1:Nat):Int)):=fun v k k' hv=>KX (mX v k hv) hv
  obtain⟨_,ho,hq⟩:=ht;rcases hq with⟨t,rfl,htL⟩|rfl
  ·have ug:Rn F X 81 0 [bD op,.int .i64 a,.int .i64 b,.int .i64 n] (·=[jD t,.bool true]):=⟨_,ho,rfl⟩;refine wr Y<|wy Y ai<|wo Y (aA ao Y)<|wg 1 Y<|oq<|wy Y gm<|wo Y (iQ Cz)<|wo Y hm<|wy Y gm<|wo Y (DX a0B)<|wg 1 Y<|wx Y ak6 fun|_,⟨tx,us,pp,qq,rfl,p0,p1,r0,r1⟩=>⟨Y,?_⟩
   refine hZ<|d_ Y ay ?_ ?_<;>intro h
   ·refine wo Y oI<|wy Y gm<|wo Y (iQ kn)<|d_ Y ai ?_ ?_<;>intro h
    ·exact wt Y ⟨_,_,rfl⟩
    ·refine wn Y ay<|wy Y gm<|wo Y (iQ kn)<|wo Y (sQ a0B a0B)<|jy<|wo Y oI<|wy Y gm<|wo Y (iQ kn)<|wo Y yO<|wy Y gP<|wy Y gP<|wo Y oA<|xQ<|wg 1 Y<|Wp.two Y (sO a0H) rfl ?_ ?_
     ·refine wl Y ug rfl<|wg 1 Y<|Wp.two Y (sO a0H) rfl ?_ ?_
      ·exact wo Y oA<|jn<|b_ Y (cW _ _ (by first|exact dQ|(rw[xt];exact dQ)|(rw[xt,xt];exact dQ)) (by first|exact sR cL a0B|exact mX _ _ a0B|exact pN _ _ _ a0B))
      ·exact wt Y ⟨_,_,rfl⟩
     ·exact wt Y ⟨_,_,rfl⟩
   ·refine d_ Y ay ?_ ?_<;>intro h
    ·refine wo Y oI<|wy Y gm<|wo Y (iQ kn)<|d_ Y ai ?_ ?_<;>intro h
     ·exact wt Y ⟨_,_,rfl⟩
     ·refine wn Y ay<|wy Y gm<|wo Y (iQ kn)<|wo Y (sQ a0B a0B)<|jy<|wo Y oI<|wy Y gm<|wo Y (iQ kn)<|wo Y yO<|wy Y gP<|wy Y gP<|wo Y oA<|xQ<|wg 1 Y<|Wp.two Y (sO a0H) rfl ?_ ?_
      ·refine wl Y ug rfl<|wg 1 Y<|Wp.two Y (sO a0H) rfl ?_ ?_
       ·exact wo Y oA<|jn<|b_ Y (cW _ _ (by first|exact dQ|(rw[xt];exact dQ)|(rw[xt,xt];exact dQ)) (by first|exact sR cL a0B|exact mX _ _ a0B|exact pN _ _ _ a0B))
       ·exact wt Y ⟨_,_,rfl⟩
      ·exact wt Y ⟨_,_,rfl⟩
    ·refine wy Y gm<|wo Y (iQ kn)<|d_ Y ai ?_ ?_<;>intro h
     ·exact wt Y ⟨_,_,rfl⟩
     ·refine d_ Y ay ?_ ?_<;>intro h
      ·refine wy Y gm<|wo Y (iQ kn)<|d_ Y gP ?_ ?_<;>intro h
       ·exact wt Y ⟨_,_,rfl⟩
       ·refine wy Y gm<|wo Y (iQ kn)<|wo Y (sQ a0B a0B)<|jy<|wo Y oI<|wy Y gm<|wo Y (iQ kn)<|wo Y yO<|wy Y gP<|wn Y gP<|wl Y ug rfl<|om<|wg 1 Y<|Wp.two Y (sO a0H) rfl ?_ ?_
        ·exact wo Y oA<|b_ Y (cW _ _ (by first|exact dQ|(rw[xt];exact dQ)|(rw[xt,xt];exact dQ)) (by first|exact sR cL a0B|exact mX _ _ a0B|exact pN _ _ _ a0B))
        ·exact wt Y ⟨_,_,rfl⟩
      ·refine wy Y gm<|wo Y (iQ kn)<|wo Y (sQ a0B a0B)<|wo Y oI<|jy<|wy Y gm<|wo Y (iQ kn)<|wo Y yO<|d_ Y gP ?_ ?_<;>intro h
       ·refine wy Y gP<|wo Y oA<|wg 1 Y<|Wp.two Y (sO a0H) rfl ?_ ?_
        ·refine wg 1 Y<|om<|wL Y ug rfl<|wg 1 Y<|Wp.two Y (sO a0H) rfl ?_ ?_
         ·exact wo Y oA<|b_ Y (cW _ _ (by first|exact dQ|(rw[xt];exact dQ)|(rw[xt,xt];exact dQ)) (by first|exact sR cL a0B|exact mX _ _ a0B|exact pN _ _ _ a0B))
         ·exact wt Y ⟨_,_,rfl⟩
        ·exact wt Y ⟨_,_,rfl⟩
       ·refine wl Y ug rfl<|wg 1 Y<|Wp.two Y (sO a0H) rfl ?_ ?_
        ·exact wo Y oA<|oR<|b_ Y (cW _ _ (by first|exact dQ|(rw[xt];exact dQ)|(rw[xt,xt];exact dQ)) (by first|exact sR cL a0B|exact mX _ _ a0B|exact pN _ _ _ a0B))
        ·exact wt Y ⟨_,_,rfl⟩
  ·have ug:Rn F X 81 0 [bD op,.int .i64 a,.int .i64 b,.int .i64 n] (·=[iD 0,.bool false]):=⟨_,ho,rfl⟩;refine wr Y<|wy Y ai<|wo Y (aA ao Y)<|wg 1 Y<|oq<|wy Y gm<|wo Y (iQ Cz)<|wo Y hm<|wy Y gm<|wo Y (DX a0B)<|wg 1 Y<|wx Y ak6 fun|_,⟨tx,us,pp,qq,rfl,p0,p1,r0,r1⟩=>⟨Y,?_⟩
   refine hZ<|d_ Y ay ?_ ?_<;>intro h
   ·refine wo Y oI<|wy Y gm<|wo Y (iQ kn)<|d_ Y ai ?_ ?_<;>intro h
    ·exact wt Y ⟨_,_,rfl⟩
    ·refine wn Y ay<|wy Y gm<|wo Y (iQ kn)<|wo Y (sQ a0B a0B)<|jy<|wo Y oI<|wy Y gm<|wo Y (iQ kn)<|wo Y yO<|wy Y gP<|wy Y gP<|wo Y oA<|xQ<|wg 1 Y<|Wp.two Y (sO a0H) rfl ?_ ?_
     ·exact wl Y ug rfl<|wo Y oA<|b_ Y (cW _ _ (by first|exact dQ|(rw[xt];exact dQ)|(rw[xt,xt];exact dQ)) (by first|exact sR cL a0B|exact mX _ _ a0B|exact pN _ _ _ a0B))
     ·exact wt Y ⟨_,_,rfl⟩
   ·refine d_ Y ay ?_ ?_<;>intro h
    ·refine wo Y oI<|wy Y gm<|wo Y (iQ kn)<|d_ Y ai ?_ ?_<;>intro h
     ·exact wt Y ⟨_,_,rfl⟩
     ·refine wn Y ay<|wy Y gm<|wo Y (iQ kn)<|wo Y (sQ a0B a0B)<|jy<|wo Y oI<|wy Y gm<|wo Y (iQ kn)<|wo Y yO<|wy Y gP<|wy Y gP<|wo Y oA<|xQ<|wg 1 Y<|Wp.two Y (sO a0H) rfl ?_ ?_
      ·exact wl Y ug rfl<|wo Y oA<|b_ Y (cW _ _ (by first|exact dQ|(rw[xt];exact dQ)|(rw[xt,xt];exact dQ)) (by first|exact sR cL a0B|exact mX _ _ a0B|exact pN _ _ _ a0B))
      ·exact wt Y ⟨_,_,rfl⟩
    ·refine wy Y gm<|wo Y (iQ kn)<|d_ Y ai ?_ ?_<;>intro h
     ·exact wt Y ⟨_,_,rfl⟩
     ·refine d_ Y ay ?_ ?_<;>intro h
      ·refine wy Y gm<|wo Y (iQ kn)<|d_ Y gP ?_ ?_<;>intro h
       ·exact wt Y ⟨_,_,rfl⟩
       ·exact wy Y gm<|wo Y (iQ kn)<|wo Y (sQ a0B a0B)<|jy<|wo Y oI<|wy Y gm<|wo Y (iQ kn)<|wo Y yO<|wy Y gP<|wn Y gP<|wl Y ug rfl<|om<|wo Y oA<|b_ Y (cW _ _ (by first|exact dQ|(rw[xt];exact dQ)|(rw[xt,xt];exact dQ)) (by first|exact sR cL a0B|exact mX _ _ a0B|exact pN _ _ _ a0B))
      ·refine wy Y gm<|wo Y (iQ kn)<|wo Y (sQ a0B a0B)<|wo Y oI<|jy<|wy Y gm<|wo Y (iQ kn)<|wo Y yO<|d_ Y gP ?_ ?_<;>intro h
       ·refine wy Y gP<|wo Y oA<|wg 1 Y<|Wp.two Y (sO a0H) rfl ?_ ?_
        ·exact wg 1 Y<|om<|wL Y ug rfl<|wo Y oA<|b_ Y (cW _ _ (by first|exact dQ|(rw[xt];exact dQ)|(rw[xt,xt];exact dQ)) (by first|exact sR cL a0B|exact mX _ _ a0B|exact pN _ _ _ a0B))
        ·exact wt Y ⟨_,_,rfl⟩
       ·exact wl Y ug rfl<|wo Y oA<|om<|b_ Y (cW _ _ (by first|exact dQ|(rw[xt];exact dQ)|(rw[xt,xt];exact dQ)) (by first|exact sR cL a0B|exact mX _ _ a0B|exact pN _ _ _ a0B))
theorem aB5(hc:gL code)(hl:code.length<=50000):Rn F X 83 0 [.sl code] HQ:=by
 have loop:∀(f i:Nat),i+f=code.length+1->∀(hs:List Int),hs.length=code.length+1->(∀x∈hs,-1<=x/\x<=0)->Rn F X 83 1 [.sl code,jD (code.length+1),jD i,.sl (hD hs)] HQ:=by
  intro f
  induction f with
  |zero=>
   intro i hi hs h1 h2;exact wr Y<|wn Y ai<|wo Y bf<|b_ Y (aw9 hc hl code.length 0 a0B hs 0 h1 h2)
  |succ f ih=>
   intro i hi hs h1 h2;have next:=ih (i+1) a0B (hs.set i (-1)) (by rw[xt];exact h1) (KX h2 a0B);exact wr Y<|wy Y ai<|wy Y gm<|wo Y (DX a0B)<|wo Y oA<|wj next
 have e:hD (List.replicate (code.length+1) 0)=List.replicate (code.length+1) [D.int .i64 0]:=by unfold hD;rw[List.map_replicate]
 have h0:=loop (code.length+1) 0 a0B (List.replicate (code.length+1) 0) a0C (fun x hx=>by have:=List.eq_of_mem_replicate hx;omega);rw[e] at h0;exact wr Y<|wo Y bf<|wo Y oA<|wo Y (bs8 a0B)<|wo Y (az (List.length_replicate))<|w5<|wj h0
end
structure Un where
 n:Nat
 t:Int
 c:a0b
abbrev uD(u:Un):a0d:=[jD u.n,.int .i64 u.t,.sl u.c]
section
variable{f:dg}{hss:List (List aq)}{i:Nat}{c:Cm}{al:a0g}{ints tables:Nat}
structure PO (f:dg) (hss:List (List aq)) (i:Nat) (p:Cp):Prop where
 f:p.f=f
 hs:p.hs=hss
 own:p.own=i
 v:p.vars.length<=1000
 t:p.tables.length<=1000
 fl:p.flags.length<=1000
def UQ(f:dg)(hss:List (List aq))(i:Nat)(o:a0d):Prop:=∃u p' fL,o=uD u++il p' fL/\PO f hss i p'
theorem Ps(hf:gZ ar f)(hh:hss.length=ar.length)(o5:∀l∈hss,l.length<=1000)(aQ:ar[i]? =some al)(i3:ints<=3)(t1:tables<=1){h:Hn}(ho:sh ints tables f.flags.length i ar al k h)(hp:PO f hss i p):Rn F X 78 0 (il p code++h.s) (UQ f hss i):=by
 obtain⟨m,hm,mY,hb⟩:=ho.mm;have cS:=hf.jC;have fU:=(cS al (xu aQ)).2.2 m (xu hm);have gI:=ho.n;have hn:=hf.n;obtain⟨pf,rk,own,vars,Pv,flags,params⟩:=p;obtain⟨e1,e2,e3,v1,v2,v3⟩:=hp;simp only at e1 e2 e3 v1 v2 v3;subst e1;subst e2;subst e3;obtain⟨h1,h2,h3⟩:=h;simp only at mY hb gI;have iZ:h2.length=m:=by rw[mY];simp[aP]
 have gd:(strs h2).length=h2.length:=xm _;have FL:TW ar ⟨pf,rk,own,vars,Pv,flags,h2⟩:=⟨⟨v1,v2,v3,by show h2.length<=1000;omega⟩,hf,hh,o5,by show own<rk.length;rw[hh];exact iR aQ⟩;have c1:=aR7 (X:=X) FL (w:=⟨⟨ints,tables,pf.flags.length,m⟩,ar,own⟩) ⟨⟨i3,t1,hf.flags.1,fU⟩,hn.2.2,fun l h=>(cS l h).2⟩ rfl 12 h3 4 gI (xk _) hb [] (fun r h=>by cases h) a0F;refine wr Y<|nL<|wg 1 Y<|wx Y c1 fun|_,⟨bl,rfl,bF,q1,q2⟩=>⟨Y,?_⟩
 refine xQ<|wg 1 Y ?_;obtain⟨_,hq,t,b,rfl⟩:=aB5 (X:=X) bF (by simp at q2;omega);have c2:Rn F X 83 0 [.sl bl] (·=[.int .i64 t,.bool b]):=⟨_,hq,rfl⟩;cases b
 ·exact wL Y c2 Y<|wo Y (az gd)<|wt Y ⟨⟨h2.length,t,bl⟩,⟨pf,rk,own,vars,Pv,flags,h2⟩,bl,rfl,rfl,rfl,rfl,v1,v2,v3⟩
 ·exact wL Y c2 Y<|wo Y (az gd)<|wt Y ⟨⟨h2.length,t,bl⟩,⟨pf,rk,own,vars,Pv,flags,h2⟩,bl,rfl,rfl,rfl,rfl,v1,v2,v3⟩
theorem Du(hn:n<=3)(hk:k<n):Rn F X 43 0 [.sl (strs (aP 104 n)),.str (nm 104 k)] (·=[iD k]):=(Dt (X:=X) (l:=aP 104 n) (by simp[aP];omega) (nm 104 k)).mono fun o h=>by
 rcases h with⟨_,j,rfl,hj,he⟩|⟨fy,_⟩
 ·rw[aP,xx] at he;have pS:j<n:=by simpa[aP] using hj
  rw[List.getElem?_range pS] at he;have he:nm 104 j=nm 104 k:=by simpa using he
  rw[(rS a0B a0B a0B a0B he).2]
 ·exact absurd (aa8 hk) fy
def CQ(f:dg)(hss:List (List aq))(Rr:a0s)(o:a0d):Prop:=∃(us fs:a0b) (p':Cp) (fL:a0b),o=[.sl (strs Rr),.sl us,.sl fs]++il p' fL/\p'.f=f/\p'.hs=hss
theorem bA1(hf:gZ ar f)(hh:hss.length=ar.length)(o5:∀l∈hss,l.length<=1000)(aQ:ar[i]? =some al)(i3:ints<=3)(t1:tables<=1)(hn:al.length=1)(dK:c.aT.length<=2)(bI:∀l∈c.aT,1<=l.length/\l.length<=al.length/\∀k h,l[k]? =some h->sh ints tables f.flags.length i ar al k h):
 ∀(aa V:a0y),c.aT=V++aa->∀(p:Cp) (code:a0b),PO f hss i p->∀(U G:a0b),U.length=V.length->G.length=V.length->∀(u0:Un) (g0:Bool),Rn F X 79 3 ([.sl (ca c.aT),jD c.aT.length,jD V.length]++il p code++[.sl (strs (aP 104 1)),.sl U,.sl G]++uD u0++[.bool g0]) (CQ f hss (aP 104 1)):=by
 intro aa
 induction aa with
 |nil=>
  intro V aJ p code hp U G hU hG u0 g0;rw[xj] at aJ;have hp':V.length=c.aT.length:=by rw[aJ]
  exact wr Y<|jy<|wn Y ai<|wt Y ⟨U,G,p,code,rfl,hp.f,hp.hs⟩
 |cons v aa ih=>
  intro V aJ p code hp U G hU hG u0 g0;have aD:=bG aJ;have ao:(ca c.aT)[V.length]? =some [.sl (v.map Hn.s)]:=cA (f:=fun l:List Hn=>[D.sl (l.map Hn.s)]) aJ;have hv:=bI v (by rw[aJ];simp);have next:=ih (V++[v]) (by rw[aJ,bw]);rw[xa] at next;have mJ:∀(ee bt:List Hn),v=bt++ee->∀(p:Cp) (code:a0b),PO f hss i p->∀(u0:Un) (g0:Bool),Rn F X 79 6 ([.sl (ca c.aT),jD c.aT.length,jD V.length,.sl (v.map Hn.s),jD v.length,jD bt.length]++il p code++[.sl (strs (aP 104 1)),.sl U,.sl G]++uD u0++[.bool g0]) (CQ f hss (aP 104 1)):=by
   intro ee
   induction ee with
   |nil=>
    intro bt bH p code hp u0 g0;rw[xj] at bH;subst bH;exact wr Y<|xR<|wn Y ai<|wg 3 Y<|wo Y oP<|wg 2 Y<|oR<|wg 1 Y<|wo Y oP<|wo Y oA<|b_ Y (next p code hp _ _ (by simp[hU]) (by simp[hG]) u0 g0)
   |cons h ee mV=>
    intro bt bH p code hp u0 g0;have ww:=bG bH;have gW:=cA (f:=Hn.s) bH;have fQ:=mV (bt++[h]) (by rw[bH,bw]);rw[xa] at fQ;have ho:=hv.2.2 bt.length h (v7 bH);have cU:=Ps (X:=X) hf hh o5 aQ i3 t1 ho hp (code:=code);have cI:=Du (X:=X) (n:=1) (k:=bt.length) a0B a0B;rw[<-ho.name] at cI;obtain⟨h1,h2,h3⟩:=h;have hk:bt.length=0:=a0B
    simp only at cI;have e3:bt.length+[(⟨h1,h2,h3⟩:Hn)].length=bt.length+1:=rfl;rw[e3] at fQ;generalize bt.length=k at*;rcases hk with rfl
    ·refine wr Y<|xR<|wy Y ai<|wo Y (aA gW Y)<|wg 1 Y<|oR<|wl Y cI rfl<|wg 1 Y<|wx Y cU fun|_,⟨u,p2,bl,rfl,aO⟩=>⟨Y,?_⟩
     dsimp only [eA,Ex.r,St.r,c_,n_,lh,lg,k9,kZ,kY,Hn.s,il];exact wo Y oA<|wj (fQ p2 bl aO u true)
  exact wr Y<|jy<|wy Y ai<|wo Y (aA ao Y)<|wg 1 Y<|qi<|wo Y (az (cq _ _))<|wj (mJ v [] rfl p code hp u0 g0)
theorem bA0(hf:gZ ar f)(hh:hss.length=ar.length)(o5:∀l∈hss,l.length<=1000)(aQ:ar[i]? =some al)(i3:ints<=3)(t1:tables<=1)(hn:al.length=2)(dK:c.aT.length<=2)(bI:∀l∈c.aT,1<=l.length/\l.length<=al.length/\∀k h,l[k]? =some h->sh ints tables f.flags.length i ar al k h):
 ∀(aa V:a0y),c.aT=V++aa->∀(p:Cp) (code:a0b),PO f hss i p->∀(U G:a0b),U.length=V.length->G.length=V.length->∀(u0 u1:Un) (g0 g1:Bool),Rn F X 79 4 ([.sl (ca c.aT),jD c.aT.length,jD V.length]++il p code++[.sl (strs (aP 104 2)),.sl U,.sl G]++uD u0++uD u1++[.bool g0,.bool g1]) (CQ f hss (aP 104 2)):=by
 intro aa
 induction aa with
 |nil=>
  intro V aJ p code hp U G hU hG u0 u1 g0 g1;rw[xj] at aJ;have hp':V.length=c.aT.length:=by rw[aJ]
  exact wr Y<|xQ<|wn Y ai<|wt Y ⟨U,G,p,code,rfl,hp.f,hp.hs⟩
 |cons v aa ih=>
  intro V aJ p code hp U G hU hG u0 u1 g0 g1;have aD:=bG aJ;have ao:(ca c.aT)[V.length]? =some [.sl (v.map Hn.s)]:=cA (f:=fun l:List Hn=>[D.sl (l.map Hn.s)]) aJ;have hv:=bI v (by rw[aJ];simp);have next:=ih (V++[v]) (by rw[aJ,bw]);rw[xa] at next;have mJ:∀(ee bt:List Hn),v=bt++ee->∀(p:Cp) (code:a0b),PO f hss i p->∀(u0 u1:Un) (g0 g1:Bool),Rn F X 79 7 ([.sl (ca c.aT),jD c.aT.length,jD V.length,.sl (v.map Hn.s),jD v.length,jD bt.length]++il p code++[.sl (strs (aP 104 2)),.sl U,.sl G]++uD u0++uD u1++[.bool g0,.bool g1]) (CQ f hss (aP 104 2)):=by
   intro ee
   induction ee with
   |nil=>
    intro bt bH p code hp u0 u1 g0 g1;rw[xj] at bH;subst bH;exact wr Y<|oR<|wn Y ai<|wg 3 Y<|wo Y oP<|wg 2 Y<|jn<|wg 1 Y<|wo Y oP<|wo Y oA<|b_ Y (next p code hp _ _ (by simp[hU]) (by simp[hG]) u0 u1 g0 g1)
   |cons h ee mV=>
    intro bt bH p code hp u0 u1 g0 g1;have ww:=bG bH;have gW:=cA (f:=Hn.s) bH;have fQ:=mV (bt++[h]) (by rw[bH,bw]);rw[xa] at fQ;have ho:=hv.2.2 bt.length h (v7 bH);have cU:=Ps (X:=X) hf hh o5 aQ i3 t1 ho hp (code:=code);have cI:=Du (X:=X) (n:=2) (k:=bt.length) a0B a0B;rw[<-ho.name] at cI;obtain⟨h1,h2,h3⟩:=h;have hk:bt.length=0\/bt.length=1:=a0B
    simp only at cI;have e3:bt.length+[(⟨h1,h2,h3⟩:Hn)].length=bt.length+1:=rfl;rw[e3] at fQ;generalize bt.length=k at*;rcases hk with rfl|rfl
    ·refine wr Y<|oR<|wy Y ai<|wo Y (aA gW Y)<|wg 1 Y<|jn<|wl Y cI rfl<|wg 1 Y<|wx Y cU fun|_,⟨u,p2,bl,rfl,aO⟩=>⟨Y,?_⟩
     exact IB<|wo Y oA<|wj (fQ p2 bl aO u u1 true g1)
    ·refine wr Y<|oR<|wy Y ai<|wo Y (aA gW Y)<|wg 1 Y<|jn<|wl Y cI rfl<|wg 1 Y<|wx Y cU fun|_,⟨u,p2,bl,rfl,aO⟩=>⟨Y,?_⟩
     exact IB<|wo Y oA<|wj (fQ p2 bl aO u0 u g0 true)
  exact wr Y<|xQ<|wy Y ai<|wo Y (aA ao Y)<|wg 1 Y<|jL<|wo Y (az (cq _ _))<|wj (mJ v [] rfl p code hp u0 u1 g0 g1)
theorem bz9(hf:gZ ar f)(hh:hss.length=ar.length)(o5:∀l∈hss,l.length<=1000)(aQ:ar[i]? =some al)(i3:ints<=3)(t1:tables<=1)(hn:al.length=3)(dK:c.aT.length<=2)(bI:∀l∈c.aT,1<=l.length/\l.length<=al.length/\∀k h,l[k]? =some h->sh ints tables f.flags.length i ar al k h):
 ∀(aa V:a0y),c.aT=V++aa->∀(p:Cp) (code:a0b),PO f hss i p->∀(U G:a0b),U.length=V.length->G.length=V.length->∀(u0 u1 u2:Un) (g0 g1 g2:Bool),Rn F X 79 5 ([.sl (ca c.aT),jD c.aT.length,jD V.length]++il p code++[.sl (strs (aP 104 3)),.sl U,.sl G]++uD u0++uD u1++uD u2++[.bool g0,.bool g1,.bool g2]) (CQ f hss (aP 104 3)):=by
 intro aa
 induction aa with
 |nil=>
  intro V aJ p code hp U G hU hG u0 u1 u2 g0 g1 g2;rw[xj] at aJ;have hp':V.length=c.aT.length:=by rw[aJ]
  exact wr Y<|MW<|wn Y ai<|wt Y ⟨U,G,p,code,rfl,hp.f,hp.hs⟩
 |cons v aa ih=>
  intro V aJ p code hp U G hU hG u0 u1 u2 g0 g1 g2;have aD:=bG aJ;have ao:(ca c.aT)[V.length]? =some [.sl (v.map Hn.s)]:=cA (f:=fun l:List Hn=>[D.sl (l.map Hn.s)]) aJ;have hv:=bI v (by rw[aJ];simp);have next:=ih (V++[v]) (by rw[aJ,bw]);rw[xa] at next;have mJ:∀(ee bt:List Hn),v=bt++ee->∀(p:Cp) (code:a0b),PO f hss i p->∀(u0 u1 u2:Un) (g0 g1 g2:Bool),Rn F X 79 8 ([.sl (ca c.aT),jD c.aT.length,jD V.length,.sl (v.map Hn.s),jD v.length,jD bt.length]++il p code++[.sl (strs (aP 104 3)),.sl U,.sl G]++uD u0++uD u1++uD u2++[.bool g0,.bool g1,.bool g2]) (CQ f hss (aP 104 3)):=by
   intro ee
   induction ee with
   |nil=>
    intro bt bH p code hp u0 u1 u2 g0 g1 g2;rw[xj] at bH;subst bH;exact wr Y<|jn<|wn Y ai<|wg 3 Y<|wo Y oP<|wg 2 Y<|kF<|wg 1 Y<|wo Y oP<|wo Y oA<|b_ Y (next p code hp _ _ (by simp[hU]) (by simp[hG]) u0 u1 u2 g0 g1 g2)
   |cons h ee mV=>
    intro bt bH p code hp u0 u1 u2 g0 g1 g2;have ww:=bG bH;have gW:=cA (f:=Hn.s) bH;have fQ:=mV (bt++[h]) (by rw[bH,bw]);rw[xa] at fQ;have ho:=hv.2.2 bt.length h (v7 bH);have cU:=Ps (X:=X) hf hh o5 aQ i3 t1 ho hp (code:=code);have cI:=Du (X:=X) (n:=3) (k:=bt.length) a0B a0B;rw[<-ho.name] at cI;obtain⟨h1,h2,h3⟩:=h;have hk:bt.length=0\/bt.length=1\/bt.length=2:=a0B
    simp only at cI;have e3:bt.length+[(⟨h1,h2,h3⟩:Hn)].length=bt.length+1:=rfl;rw[e3] at fQ;generalize bt.length=k at*;rcases hk with rfl|rfl|rfl
    ·refine wr Y<|jn<|wy Y ai<|wo Y (aA gW Y)<|wg 1 Y<|kF<|wl Y cI rfl<|wg 1 Y<|wx Y cU fun|_,⟨u,p2,bl,rfl,aO⟩=>⟨Y,?_⟩
     exact Cn<|wo Y oA<|wj (fQ p2 bl aO u u1 u2 true g1 g2)
    ·refine wr Y<|jn<|wy Y ai<|wo Y (aA gW Y)<|wg 1 Y<|kF<|wl Y cI rfl<|wg 1 Y<|wx Y cU fun|_,⟨u,p2,bl,rfl,aO⟩=>⟨Y,?_⟩
     exact Cn<|wo Y oA<|wj (fQ p2 bl aO u0 u u2 g0 true g2)
    ·refine wr Y<|jn<|wy Y ai<|wo Y (aA gW Y)<|wg 1 Y<|kF<|wl Y cI rfl<|wg 1 Y<|wx Y cU fun|_,⟨u,p2,bl,rfl,aO⟩=>⟨Y,?_⟩
     exact Cn<|wo Y oA<|wj (fQ p2 bl aO u0 u1 u g0 g1 true)
  exact wr Y<|MW<|wy Y ai<|wo Y (aA ao Y)<|wg 1 Y<|ol<|wo Y (az (cq _ _))<|wj (mJ v [] rfl p code hp u0 u1 u2 g0 g1 g2)
end
end Go.Proofs.YthicpeihkkokmaaGreatDoor
