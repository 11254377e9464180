/- What these functions answer. -/
import Derived.Test.YthicpeihkkokmaaGreatDoorP5
set_option linter.unusedVariables false
set_option linter.unusedSimpArgs false
set_option maxHeartbeats 4000000
set_option maxRecDepth 100000
namespace Go.Fl
open Go.Ex
theorem _root_.Go.QS{p:Prop}(h:p:=by first|omega|(rw[xt];omega)):p:=h
mutual
def Ex.sz:Ex->Nat| .mk _ _ _ args=>Ex.fT args+1
def Ex.fT:List Ex->Nat|[]=>0|e::l=>Ex.sz e+Ex.fT l
end
theorem Ex.W8:∀(l:List Ex) (a:Ex),Ex.fT (l++[a])=Ex.fT l+a.sz
 |[],a=>by simp[Ex.fT]
 |e::l,a=>by simp only [List.cons_append,Ex.fT,Ex.W8 l a];omega
theorem Ex.Y9{l:List Ex}{m:Nat}(h:∀a∈l,a.sz<=m):Ex.fT l<=l.length*m:=by
 induction l with
 |nil=>simp[Ex.fT]
 |cons a l ih=>
  have h1:=h a P6;have h2:=ih (fun b hb=>h b (by simp[hb]));simp only [Ex.fT,xi,Nat.add_mul,Nat.one_mul];omega
theorem jK.sz{e:Ex}(h:jK gV e):e.sz+1<=2^e.dp:=by
 induction h with
 | @mk op name n args hn ha ih=>
  obtain⟨h1,h2,h3,h4,h5⟩:=hn.get;have ek:args.length<=2:=by rw[h3];unfold jM;split<;>(try split)<;>omega
  have hd:∀a∈args,a.sz+1<=2^Ex.eF args:=fun a ha=>xH (ih a ha) (Nat.pow_le_pow_right PT (Ex.Kq ha))
  have h1:1<=2^Ex.eF args:=Nat.one_le_two_pow;simp only [Ex.sz,Ex.dp,Nat.pow_succ]
  match args,ek,hd with
  |[],_,_=>simp only [Ex.fT];omega
  |[a],_,hd=>have:=hd a P6;simp only [Ex.fT];omega
  |[a,b],_,hd=>have:=hd a P6;have:=hd b P6;simp only [Ex.fT];omega
theorem jK.M2{e:Ex}(h:jK gV e)(hd:e.dp<=6):e.sz<=63:=by
 have:=h.sz;have:2^e.dp<=2^6:=Nat.pow_le_pow_right PT hd;omega
end Go.Fl
namespace Go.Proofs.YthicpeihkkokmaaGreatDoor
open Go.Ex Go.RowKit Go.Fl
section
variable{X:fm}
theorem aZ5{l:Mm}{s:aq}{o:kG}(h:TV l s o):∃i:Int,o=[.int .i64 i]:=by
 rcases h with⟨_,i,rfl,_⟩|⟨_,rfl⟩
 ·exact⟨i,rfl⟩
 ·exact⟨-1,rfl⟩
theorem qE{l:Mm}(hl:l.length<=1000)(s:aq):Rn F X 43 0 [.sl (strs l),.str s] (fun o=>∃i:Int,o=[.int .i64 i]):=(Dt hl s).mono fun _ h=>aZ5 h
theorem sP{c:Nat}{n:Nat}(h:n<=1000000):aL (.bin .sub c) [jD n,.int .i64 1]=some (.int .i64 ((n:Int) - 1)):=sQ PT PT
theorem mN{L:Nat}{op a b n:Int}(h0:0<=op/\op<=34)(h2:op≠27/\op≠28/\op≠32/\op≠33)(h3:0<=n/\n<=8):rZ L [.int .u8 op,.int .i64 a,.int .i64 b,.int .i64 n]:=by
 obtain⟨k,rfl⟩:=Int.eq_ofNat_of_zero_le h0.1;exact bB4 PT PT h3.1 h3.2
theorem grow{p:Cp}{code:gj}{r:kG}(hc:gL code)(hr:rZ code.length r):pW p code 1 (il p (code++[r])):=⟨_,rfl,hc.snoc hr,P6,P6⟩
theorem aR3{p:Cp}(hp:p.Ok){code:gj}(hc:gL code)(hl:code.length<=100000)(s:aq):Rn F X 72 0 (il p code++[.str s]) (pW p code 1):=by
 obtain⟨f,hs,own,vars,tables,flags,params⟩:=p;refine wr rfl<|wg 1 rfl<|wx rfl (qE hp.p _) fun|_,⟨i1,rfl⟩=>⟨rfl,?_⟩
 refine Wp.aG rfl fp (fun h=> ?_) (fun h=> ?_)
 ·exact wg 2 rfl<|wo rfl oP<|ei<|wo rfl (az (n:=code.length+1) P6)<|wo rfl (sP PT)<|wt rfl (grow hc (mN PT PT PT))
 ·refine wg 1 rfl<|wx rfl (qE hp.v _) fun|_,⟨i2,rfl⟩=>⟨rfl,?_⟩
  refine Wp.aG rfl fp (fun h=> ?_) (fun h=> ?_)
  ·exact wg 2 rfl<|ei<|wo rfl oP<|wo rfl (az (n:=code.length+1) P6)<|wo rfl (sP PT)<|wt rfl (grow hc (mN PT PT PT))
  ·refine wg 1 rfl<|wx rfl (qE hp.f _) fun|_,⟨i3,rfl⟩=>⟨rfl,?_⟩
   exact ei<|wg 2 rfl<|wo rfl oP<|wo rfl (az (n:=code.length+1) P6)<|wo rfl (sP PT)<|gS<|wt rfl (grow hc (mN PT PT PT))
theorem aR5{p:Cp}(hp:p.Ok){e:Fl.Ex}(h:jK gV e):∀{code:gj},gL code->code.length+e.sz<=100000->Rn F X 73 0 (il p code++Ex.s e) (pW p code e.sz):=by
 induction h with
 | @mk op name n args hn ha ih=>
  intro code hc hl;obtain⟨h1,h2,h3,h4,h5⟩:=hn.get;simp only [Ex.sz] at hl⊢;have ek:args.length<=2:=by rw[h3];unfold jM;split<;>(try split)<;>omega
  have fx:Rn F X 74 0 (il p code++[.sl (Ex.ss args)]) (pW p code (Ex.fT args)):=by
   have loop:∀(aa pre:List Fl.Ex),args=pre++aa->∀fL,gL fL->code.length<=fL.length->fL.length<=code.length+Ex.fT pre->Rn F X 74 1 ([.sl (Ex.ss args),jD args.length,jD pre.length]++il p fL) (pW p code (Ex.fT args)):=by
    intro aa
    induction aa with
    |nil=>
     intro pre aJ fL m5 q1 q2;rw[xj] at aJ;subst aJ;obtain⟨f,hs,own,vars,tables,flags,params⟩:=p;exact wr rfl<|nL<|wn rfl ai<|wt rfl ⟨fL,rfl,m5,q1,q2⟩
    |cons a aa cX=>
     intro pre aJ fL m5 q1 q2;have aD:=bG aJ;have ao:(Ex.ss args)[pre.length]? =some (Ex.s a):=by rw[aJ];exact qF _ _ _
     have aS:Ex.fT args=Ex.fT pre+(a.sz+Ex.fT aa):=by
      rw[aJ];clear aD ao cX q2 aJ
      induction pre with
      |nil=>simp[Ex.fT]
      |cons x pre ihp=>simp only [List.cons_append,Ex.fT,ihp];omega
     have c1:=ih a (by rw[aJ];simp) (code:=fL) m5 PT;have next:=cX (pre++[a]) (by rw[aJ,bw]);rw[Ex.W8,xa] at next;obtain⟨o1,n1,i1,a1⟩:=a;obtain⟨f,hs,own,vars,tables,flags,params⟩:=p;refine wr rfl<|nL<|wy rfl ai<|wo rfl (aA ao rfl)<|wg 1 rfl<|gS<|wg 1 rfl<|wx rfl c1 fun|_,⟨bl,rfl,bF,q3,q4⟩=>⟨rfl,?_⟩
     exact pH<|wo rfl oA<|Wp.jump rfl (next bl bF PT PT)
   have:=loop args [] rfl code hc PT (by simp[Ex.fT]);obtain⟨f,hs,own,vars,tables,flags,params⟩:=p;exact wr rfl<|wo rfl (az (gF _))<|wj this
  have fin:∀{bl:gj} {r:kG},gL bl->code.length<=bl.length->bl.length<=code.length+Ex.fT args->rZ bl.length r->pW p code (Ex.fT args+1) (il p (bl++[r])):=fun h1 h2 h3 h4=>⟨_,rfl,h1.snoc h4,by rw[xa];omega,by rw[xa];show _+1<=_;omega⟩
  have cn:=fun(bl:gj) (h:gL bl) (hl:bl.length<=100000)=>aR3 (X:=X) hp h hl name
  have hn8:(0:Int)<=n/\(n:Int)<=8:=PT
  obtain⟨f,hs,own,vars,tables,flags,params⟩:=p;have uV:op=1\/op=2\/op=3\/op=4\/op=5\/op=6\/op=7\/op=8\/9<=op:=PT
  rcases uV with rfl|rfl|rfl|rfl|rfl|rfl|rfl|rfl|uV
  ·refine wr rfl<|ei<|wg 1 rfl<|wx rfl fx fun|_,⟨bl,rfl,bF,q1,q2⟩=>⟨rfl,?_⟩
   exact om<|wg 3 rfl<|wo rfl oP<|wo rfl (az (n:=bl.length+1) P6)<|wo rfl (sP PT)<|pH<|wt rfl (fin bF q1 q2 (mN PT PT PT))
  ·refine wr rfl<|ei<|wg 1 rfl<|wx rfl fx fun|_,⟨bl,rfl,bF,q1,q2⟩=>⟨rfl,?_⟩
   exact om<|wg 4 rfl<|wo rfl oP<|wo rfl (az (n:=bl.length+1) P6)<|wo rfl (sP PT)<|pH<|wt rfl (fin bF q1 q2 (mN PT PT PT))
  ·refine wr rfl<|ei<|wg 1 rfl<|wx rfl fx fun|_,⟨bl,rfl,bF,q1,q2⟩=>⟨rfl,?_⟩
   exact om<|wg 5 rfl<|wo rfl oP<|wo rfl (az (n:=bl.length+1) P6)<|wo rfl (sP PT)<|pH<|wt rfl (fin bF q1 q2 (mN PT PT PT))
  ·refine wr rfl<|ei<|wg 1 rfl<|wx rfl fx fun|_,⟨bl,rfl,bF,q1,q2⟩=>⟨rfl,?_⟩
   exact om<|wg 6 rfl<|wo rfl oP<|wo rfl (az (n:=bl.length+1) P6)<|wo rfl (sP PT)<|pH<|wt rfl (fin bF q1 q2 (mN PT PT PT))
  ·refine wr rfl<|ei<|wg 1 rfl<|wx rfl fx fun|_,⟨bl,rfl,bF,q1,q2⟩=>⟨rfl,?_⟩
   refine om<|wg 6 rfl<|wx rfl (cn bl bF PT) fun|_,⟨tf,rfl,rB,q3,q4⟩=>⟨rfl,?_⟩
   dsimp only [eA,Ex.r,St.r,List.cons_append,List.nil_append,lh,lg,k9,kZ,kY,Ex.s,il];exact wt rfl ⟨tf,rfl,rB,PT,PT⟩
  ·refine wr rfl<|ei<|wg 1 rfl<|wx rfl fx fun|_,⟨bl,rfl,bF,q1,q2⟩=>⟨rfl,?_⟩
   refine om<|wg 7 rfl<|wx rfl (qE hp.t _) fun|_,⟨i1,rfl⟩=>⟨rfl,?_⟩
   exact wg 2 rfl<|wo rfl oP<|wo rfl (az (n:=bl.length+1) P6)<|pH<|wo rfl (sP PT)<|wt rfl (fin bF q1 q2 (mN PT PT PT))
  ·refine wr rfl<|ei<|wg 1 rfl<|wx rfl fx fun|_,⟨bl,rfl,bF,q1,q2⟩=>⟨rfl,?_⟩
   refine om<|wg 8 rfl<|wx rfl (qE hp.t _) fun|_,⟨i1,rfl⟩=>⟨rfl,?_⟩
   exact wg 2 rfl<|wo rfl oP<|wo rfl (az (n:=bl.length+1) P6)<|pH<|wo rfl (sP PT)<|wt rfl (fin bF q1 q2 (mN PT PT PT))
  ·refine wr rfl<|ei<|wg 1 rfl<|wx rfl fx fun|_,⟨bl,rfl,bF,q1,q2⟩=>⟨rfl,?_⟩
   refine om<|wg 9 rfl<|wx rfl (qE hp.t _) fun|_,⟨i1,rfl⟩=>⟨rfl,?_⟩
   exact wg 2 rfl<|wo rfl oP<|wo rfl (az (n:=bl.length+1) P6)<|pH<|wo rfl (sP PT)<|wt rfl (fin bF q1 q2 (mN PT PT PT))
  ·refine wr rfl<|ei<|wg 1 rfl<|wx rfl fx fun|_,⟨bl,rfl,bF,q1,q2⟩=>⟨rfl,?_⟩
   exact om<|wn rfl ay<|wn rfl ay<|wn rfl ay<|wn rfl ay<|wn rfl ay<|wn rfl ay<|wn rfl ay<|wn rfl ay<|wg 2 rfl<|wo rfl oP<|wo rfl (az (n:=bl.length+1) P6)<|wo rfl (sP PT)<|pH<|wt rfl (fin bF q1 q2 (mN PT PT PT))
end
section
variable{X:fm}
theorem aH8{p:Cp}(hp:p.Ok){l:List Fl.Ex}(dQ:l.length<=3)(h:∀e∈l,jK gV e/\e.dp<=6){code:gj}(hc:gL code)(hl:code.length<=50000):Rn F X 74 0 (il p code++[.sl (Ex.ss l)]) (pW p code (63*l.length)):=by
 have loop:∀(aa pre:List Fl.Ex),l=pre++aa->∀fL,gL fL->code.length<=fL.length->fL.length<=code.length+63*pre.length->Rn F X 74 1 ([.sl (Ex.ss l),jD l.length,jD pre.length]++il p fL) (pW p code (63*l.length)):=by
  intro aa
  induction aa with
  |nil=>
   intro pre aJ fL m5 q1 q2;rw[xj] at aJ;subst aJ;obtain⟨f,hs,own,vars,tables,flags,params⟩:=p;exact wr rfl<|nL<|wn rfl ai<|wt rfl ⟨fL,rfl,m5,q1,q2⟩
  |cons a aa cX=>
   intro pre aJ fL m5 q1 q2;have aD:=bG aJ;have ao:(Ex.ss l)[pre.length]? =some (Ex.s a):=by rw[aJ];exact qF _ _ _
   have ha:=h a (by rw[aJ];simp);have aS:=ha.1.M2 ha.2;have c1:=aR5 (X:=X) hp ha.1 m5 PT;have next:=cX (pre++[a]) (by rw[aJ,bw]);rw[xa] at next;have e1:pre.length+[a].length=pre.length+1:=rfl;rw[e1] at next;obtain⟨o1,n1,i1,a1⟩:=a;obtain⟨f,hs,own,vars,tables,flags,params⟩:=p;refine wr rfl<|nL<|wy rfl ai<|wo rfl (aA ao rfl)<|wg 1 rfl<|gS<|wg 1 rfl<|wx rfl c1 fun|_,⟨bl,rfl,bF,q3,q4⟩=>⟨rfl,?_⟩
   exact pH<|wo rfl oA<|Wp.jump rfl (next bl bF PT PT)
 have:=loop l [] rfl code hc PT P6;obtain⟨f,hs,own,vars,tables,flags,params⟩:=p;exact wr rfl<|wo rfl (az (gF _))<|wj this
theorem aB3{ar:rQ}{f:dg}(hf:gZ ar f){i:Nat}(hi:i<ar.length){k:Nat}{hn:aq}{E T L:gj}:Rn F X 71 0 [.sl (f.comps.map Cm.s),.ptr [bD k,.str [(97+i).toUInt8],.str hn,.sl E,.sl T,.sl L] 0] (·=[jD i]):=by
 have yc:=hf.n;have loop:∀(aa pre:List Cm),f.comps=pre++aa->pre.length<=i->Rn F X 71 1 [.sl (f.comps.map Cm.s),.ptr [bD k,.str [(97+i).toUInt8],.str hn,.sl E,.sl T,.sl L] 0,jD f.comps.length,jD pre.length] (·=[jD i]):=by
  intro aa
  induction aa with
  |nil=>
   intro pre hp aK;rw[xj] at hp;have:pre.length=f.comps.length:=by rw[hp]
   omega
  |cons a aa ih=>
   intro pre hp aK;have aD:=bG hp;have ao:=cA (f:=Cm.s) hp;have ii:=(hf.comps pre.length a (v7 hp)).name;by_cases hs:pre.length=i
   ·obtain⟨a1,a2,a3⟩:=a;simp only at ii;rw[hs] at ii ao⊢;exact wr rfl<|wy rfl ai<|wo rfl (aA ao rfl)<|wg 1 rfl<|w8<|wg 2 rfl<|Wp.dO rfl jE ii<|wt rfl rfl
   ·have next:=ih (pre++[a]) (by rw[hp,bw]) Qo;rw[xa] at next;have bq:a.name≠[(97+i).toUInt8]:=fun e=>hs (DI PT PT (by rw[<-ii,e]))
    obtain⟨a1,a2,a3⟩:=a;simp only at bq;exact wr rfl<|wy rfl ai<|wo rfl (aA ao rfl)<|wg 1 rfl<|w8<|wg 2 rfl<|Wp.dF rfl jE bq<|wo rfl oA<|wj next
 exact wr rfl<|wo rfl (az (cq _ _))<|Wp.jump rfl (loop f.comps [] rfl P6)
structure TW (ar:rQ) (p:Cp):Prop where
 ok:p.Ok
 f:gZ ar p.f
 hs:p.hs.length=ar.length
 hl:∀l∈p.hs,l.length<=1000
 own:p.own<p.hs.length
def OtQ(p:Cp)(code:gj)(m:Nat)(o:kG):Prop:=∃(t:Int) (fL:gj),o= .int .i64 t::il p fL/\gL fL/\code.length<=fL.length/\fL.length<=code.length+m/\0<=t/\t<=fL.length
theorem aM8{p:Cp}{l:KP}(hb:∀code,gL code->code.length+200*St.ns l<=40000->Rn F X 77 0 (il p code++[.sl (St.ss l)]) (pW p code (200*St.ns l))){code:gj}(hc:gL code)(hl:code.length+200*St.ns l+1<=40000):Rn F X 75 0 (il p code++[.sl (St.ss l)]) (OtQ p code (200*St.ns l+1)):=by
 have kJ:=nj l;rcases xI l.length with h0|h0
 ·obtain⟨f,hs,own,vars,tables,flags,params⟩:=p;exact wr rfl<|wo rfl (az (n:=l.length) (mC _))<|wy rfl ay<|wo rfl bf<|wt rfl ⟨_,code,rfl,hc,PT,PT,PT,PT⟩
 ·have js:=hc.snoc (r:=[bD 27,.int .i64 0,.int .i64 0,.int .i64 0]) ⟨27,0,0,0,rfl,PT,fun _=>PT,fun _=>PT,PT,PT⟩;have b1:=hb _ js (by rw[xa];show code.length+1+_<=_;omega);obtain⟨f,hs,own,vars,tables,flags,params⟩:=p;refine wr rfl<|wo rfl (az (n:=l.length) (mC _))<|wn rfl ay<|wg 2 rfl<|wo rfl oP<|ei<|wo rfl (az (n:=code.length+1) P6)<|wo rfl oW<|wo rfl (az (n:=code.length+1) P6)<|wg 1 rfl<|wx rfl b1 fun|_,⟨bl,rfl,bF,q1,q2⟩=>⟨rfl,?_⟩
  refine MW<|wo rfl bf ?_;rw[xa] at q1 q2;have q1:code.length+1<=bl.length:=q1;have q2:bl.length<=code.length+1+200*St.ns l:=q2;obtain⟨r,hr,bg⟩:=PG bF (i:=code.length+1 - 1) PT (v:=bl.length);have rB:=bF.Sf hr (v:=bl.length) PT PT;exact wy rfl Zr<|wo rfl bg<|wt rfl ⟨_,_,rfl,rB,by rw[xt];omega,by rw[xt];omega,PT,by rw[xt];omega⟩
theorem qH{rows:gj}{k n:Nat}(h:rows.length=n):aL .jf [.sl rows,jD k]=some (.bool (decide (k<n))):=by rw[<-h];rfl
theorem vF{p:Cp}{code bl:gj}{m:Nat}(h:gL bl)(h1:code.length<=bl.length)(h2:bl.length<=code.length+m):pW p code m (il p bl):=⟨bl,rfl,h,h1,h2⟩
theorem L9{L:Nat}{op a b n:Int}(h0:0<=op/\op<=34)(h1:0<=a/\a<=L)(h2:0<=b/\b<=L)(h3:0<=n/\n<=8):rZ L [.int .u8 op,.int .i64 a,.int .i64 b,.int .i64 n]:=by
 obtain⟨k,rfl⟩:=Int.eq_ofNat_of_zero_le h0.1;exact⟨k,a,b,n,rfl,PT,fun _=>h1,fun _=>h2,h3.1,h3.2⟩
theorem bB5{L:Nat}{a n:Int}{op:Int}(h0:op=33)(h3:0<=n/\n<=8):rZ L [.int .u8 op,.int .i64 a,.int .i64 0,.int .i64 n]:=by
 subst h0;exact⟨33,a,0,n,rfl,PT,fun h=>PT,fun _=>PT,h3.1,h3.2⟩
theorem aR0{ar:rQ}{p:Cp}(hp:TW ar p){w:Wd}(hw:w.Ok)(UP:w.ar=ar){B:KP->Prop}{s:St}(hs:ma w B s)(hn:s.n<=12)
 (hb:∀l:KP,(l=[]\/B l)->St.ns l<s.n->∀code,gL code->code.length+200*St.ns l<=40000->Rn F X 77 0 (il p code++[.sl (St.ss l)]) (pW p code (200*St.ns l)))
 {code:gj} (hc:gL code) (hl:code.length+200*s.n<=40000):Rn F X 76 0 (il p code++St.s s) (pW p code (200*s.n)):=by
 have jY:=hs.node hw hn;have js:=hc.snoc (r:=[.int .u8 29,.int .i64 0,.int .i64 0,.int .i64 0]) (mN PT PT PT);have ex:=fun(l:List Fl.Ex) (h1:l.length<=3) (h2:∀e∈l,jK gV e/\e.dp<=6)=>aH8 (X:=X) hp.ok h1 h2 js (by rw[xa];show code.length+1<=_;omega)
 have kR:(code++[[D.int .u8 29,D.int .i64 0,D.int .i64 0,D.int .i64 0]]).length=code.length+1:=P6
 have bS:=fun l h1 h2 (bl:gj) h3 h4=>hb l h1 h2 bl h3 h4
 have oS:=fun l h1 h2 (bl:gj) (h3:gL bl) (h4:bl.length+200*St.ns l+1<=40000)=>aM8 (X:=X) (p:=p) (l:=l) (hb l h1 h2) h3 h4
 have IY:=hp.ok;have kB:=hp.own;cases hs with
 | @nz k h e he=>
  have lV:=ex [e] P6 jY.ex;obtain⟨f,hs,own,vars,tables,flags,params⟩:=p;refine wr rfl<|hZ<|wg 2 rfl<|wo rfl oP<|wo rfl (az kR)<|wo rfl oW<|jy<|wg 1 rfl ?_
  (refine wx rfl lV fun|_,⟨bl,rfl,bF,q1,q2⟩=>⟨rfl,?_⟩;rw[kR] at q1 q2;try simp only [xi,xd] at q2)
  refine jn<|wg 2 rfl<|wx rfl (qE IY.v _) fun|_,⟨i1,rfl⟩=>⟨rfl,?_⟩
  exact wg 2 rfl<|wo rfl oP<|wo rfl (az (n:=bl.length+1) P6)<|kF<|wo rfl oW<|wt rfl (vF (bF.snoc (mN PT PT PT)) Qo (by simp[St.n,St.ns] at*;omega))
 | @BS e he=>
  have lV:=ex [e] P6 jY.ex;obtain⟨f,hs,own,vars,tables,flags,params⟩:=p;refine wr rfl<|hZ<|wg 2 rfl<|wo rfl oP<|wo rfl (az kR)<|wo rfl oW<|jy<|wg 1 rfl ?_
  (refine wx rfl lV fun|_,⟨bl,rfl,bF,q1,q2⟩=>⟨rfl,?_⟩;rw[kR] at q1 q2;try simp only [xi,xd] at q2)
  refine jn<|wg 2 rfl<|wx rfl (qE IY.v _) fun|_,⟨i1,rfl⟩=>⟨rfl,?_⟩
  exact wg 2 rfl<|wo rfl oP<|wo rfl (az (n:=bl.length+1) P6)<|kF<|wo rfl oW<|wt rfl (vF (bF.snoc (mN PT PT PT)) Qo (by simp[St.n,St.ns] at*;omega))
 | @put h a b ha bM=>
  have lV:=ex [a,b] P6 jY.ex;obtain⟨f,hs,own,vars,tables,flags,params⟩:=p;refine wr rfl<|hZ<|wg 2 rfl<|wo rfl oP<|wo rfl (az kR)<|wo rfl oW<|jy<|wg 1 rfl ?_
  (refine wx rfl lV fun|_,⟨bl,rfl,bF,q1,q2⟩=>⟨rfl,?_⟩;rw[kR] at q1 q2;try simp only [xi,xd] at q2)
  refine jn<|wg 3 rfl<|wx rfl (qE IY.t _) fun|_,⟨i1,rfl⟩=>⟨rfl,?_⟩
  exact wg 2 rfl<|wo rfl oP<|wo rfl (az (n:=bl.length+1) P6)<|kF<|wo rfl oW<|wt rfl (vF (bF.snoc (mN PT PT PT)) Qo (by simp[St.n,St.ns] at*;omega))
 | @del h a ha=>
  have lV:=ex [a] P6 jY.ex;obtain⟨f,hs,own,vars,tables,flags,params⟩:=p;refine wr rfl<|hZ<|wg 2 rfl<|wo rfl oP<|wo rfl (az kR)<|wo rfl oW<|jy<|wg 1 rfl ?_
  (refine wx rfl lV fun|_,⟨bl,rfl,bF,q1,q2⟩=>⟨rfl,?_⟩;rw[kR] at q1 q2;try simp only [xi,xd] at q2)
  refine jn<|wg 4 rfl<|wx rfl (qE IY.t _) fun|_,⟨i1,rfl⟩=>⟨rfl,?_⟩
  exact wg 2 rfl<|wo rfl oP<|wo rfl (az (n:=bl.length+1) P6)<|kF<|wo rfl oW<|wt rfl (vF (bF.snoc (mN PT PT PT)) Qo (by simp[St.n,St.ns] at*;omega))
 | @cond e he th el h1 h2=>
  have lV:=ex [e] P6 jY.ex;simp only [St.n] at hn hl⊢;obtain⟨f,hs,own,vars,tables,flags,params⟩:=p;refine wr rfl<|hZ<|wg 2 rfl<|wo rfl oP<|wo rfl (az kR)<|wo rfl oW<|jy<|wg 1 rfl ?_
  (refine wx rfl lV fun|_,⟨bl,rfl,bF,q1,q2⟩=>⟨rfl,?_⟩;rw[kR] at q1 q2;try simp only [xi,xd] at q2)
  refine jn<|wg 6 rfl<|wo rfl oP<|wo rfl (az (n:=bl.length+1) P6)<|wo rfl oW<|kF<|wg 1 rfl ?_
  (refine wx rfl (bS th (.inr h1) (by simp only [St.n];omega) _ (bF.snoc (L9 PT PT PT PT)) Qo) fun|_,⟨tf,rfl,rB,q3,q4⟩=>⟨rfl,?_⟩;rw[xa] at q3 q4)
  refine IB<|wg 1 rfl<|wx rfl (oS el (.inr h2) (by simp only [St.n];omega) tf rB (by simp at q3 q4;omega)) fun|_,⟨t,ag3,rfl,ud,q5,q6,q7,q8⟩=>⟨rfl,?_⟩
  simp only [xi,xd] at q3 q4;obtain⟨r,hr,bg⟩:=PG ud (i:=bl.length+1 - 1) PT (v:=t);have CO:=ud.Sf hr (v:=t) q7 q8;exact wy rfl Zr<|wo rfl bg<|wt rfl ⟨_,rfl,CO,by rw[xt];omega,by rw[xt];omega⟩
 | @EB e he th h1=>
  have lV:=ex [e] P6 jY.ex;simp only [St.n] at hn hl⊢;obtain⟨f,hs,own,vars,tables,flags,params⟩:=p;have vo:((code.length+1 - 1:Nat):Int)=(code.length:Int):=PT
  refine wr rfl<|hZ<|wg 2 rfl<|wo rfl oP<|wo rfl (az kR)<|wo rfl oW<|jy<|wg 1 rfl ?_
  (refine wx rfl lV fun|_,⟨bl,rfl,bF,q1,q2⟩=>⟨rfl,?_⟩;rw[kR] at q1 q2;try simp only [xi,xd] at q2)
  refine jn<|wg 7 rfl<|wo rfl oP<|wo rfl (az (n:=bl.length+1) P6)<|wo rfl oW<|kF<|wg 1 rfl ?_
  (refine wx rfl (bS th (.inr h1) (by simp only [St.n];omega) _ (bF.snoc (L9 PT PT PT PT)) Qo) fun|_,⟨tf,rfl,rB,q3,q4⟩=>⟨rfl,?_⟩;rw[xa] at q3 q4)
  refine IB<|wg 2 rfl ?_;simp only [xi,xd] at q3 q4;refine wo rfl oP<|wo rfl (az (n:=tf.length+1) P6)<|wo rfl oW<|Cn<|wo rfl (az (n:=tf.length+1) P6) ?_;have ud:gL (tf++[[D.int .u8 27,jD (code.length+1 - 1),D.int .i64 0,D.int .i64 0]]):=rB.snoc (L9 PT PT PT PT);have Nq:(tf++[[D.int .u8 27,jD (code.length+1 - 1),D.int .i64 0,D.int .i64 0]]).length=tf.length+1:=P6
  obtain⟨r,hr,bg⟩:=PG ud (i:=bl.length+1 - 1) PT (v:=((tf.length+1:Nat):Int));have CO:=ud.Sf hr (v:=((tf.length+1:Nat):Int)) PT PT;exact wy rfl (qH Nq)<|wo rfl bg<|wt rfl ⟨_,rfl,CO,by rw[xt];omega,by rw[xt];omega⟩
 | @send i h n l gx hh es he fy=>
  have lV:=ex es (by have:=jY.ln;simp at this;omega) jY.ex;simp only [St.n] at hn hl⊢;obtain⟨f,hs,own,vars,tables,flags,params⟩:=p;have dS:es.length<=3:=by have:=jY.ln;simp at this;omega
  have FF:i<ar.length:=by rw[<-UP];exact iR gx
  have x71:=aB3 (X:=X) hp.f FF (k:=6) (hn:=nm 104 h) (E:=Ex.ss es) (T:=[]) (L:=[]);have eC:i<hs.length:=by have:=hp.hs;simp only at this;omega
  have ao:(hs.map fun l=>[D.sl (strs l)])[i]? =some [.sl (strs hs[i])]:=by rw[xx,xc eC];rfl
  have SK:=hp.hl hs[i] (List.getElem_mem eC);have cx5:(((Ex.ss es).length:Nat):Int)=(es.length:Int):=by rw[gF]
  refine wr rfl<|hZ<|wg 2 rfl<|wo rfl oP<|wo rfl (az kR)<|wo rfl oW<|jy<|wg 1 rfl ?_
  (refine wx rfl lV fun|_,⟨bl,rfl,bF,q1,q2⟩=>⟨rfl,?_⟩;rw[kR] at q1 q2;try simp only [xi,xd] at q2)
  refine jn<|wg 8 rfl<|wL rfl x71 rfl<|wo rfl (aA ao rfl)<|wg 1 rfl<|kF<|wo rfl (az (gF es))<|wg 1 rfl<|wx rfl (qE SK _) fun|_,⟨i9,rfl⟩=>⟨rfl,?_⟩
  exact wg 2 rfl<|wo rfl oP<|mR<|wo rfl (az (n:=bl.length+1) P6)<|wo rfl oW<|wt rfl (vF (bF.snoc (mN PT PT PT)) Qo (by simp[St.n,St.ns] at*;omega))
 | @Ci h n l gx hh es he fy=>
  have lV:=ex es (by have:=jY.ln;simp at this;omega) jY.ex;simp only [St.n] at hn hl⊢;obtain⟨f,hs,own,vars,tables,flags,params⟩:=p;have dS:1<=es.length/\es.length<=3:=by have:=jY.ln;simp at this;omega
  have eC:own<hs.length:=kB;have ao:(hs.map fun l=>[D.sl (strs l)])[own]? =some [.sl (strs hs[own])]:=by rw[xx,xc eC];rfl
  have SK:=hp.hl hs[own] (List.getElem_mem eC);refine wr rfl<|hZ<|wg 2 rfl<|wo rfl oP<|wo rfl (az kR)<|wo rfl oW<|jy<|wg 1 rfl ?_
  (refine wx rfl lV fun|_,⟨bl,rfl,bF,q1,q2⟩=>⟨rfl,?_⟩;rw[kR] at q1 q2;try simp only [xi,xd] at q2)
  refine jn<|wg 7 rfl<|wo rfl (aA ao rfl)<|wg 1 rfl<|wo rfl (az (gF es))<|wo rfl oW<|kF<|wg 1 rfl<|wx rfl (qE SK _) fun|_,⟨i9,rfl⟩=>⟨rfl,?_⟩
  exact wg 2 rfl<|wo rfl oP<|wo rfl (az (n:=bl.length+1) P6)<|mR<|wo rfl oW<|wt rfl (vF (bF.snoc (mN PT PT PT)) Qo (by simp[St.n,St.ns] at*;omega))
 | @store a b ha bM el h2=>
  have lV:=ex [a,b] P6 jY.ex;simp only [St.n] at hn hl⊢;obtain⟨f,hs,own,vars,tables,flags,params⟩:=p;refine wr rfl<|hZ<|wg 2 rfl<|wo rfl oP<|wo rfl (az kR)<|wo rfl oW<|jy<|wg 1 rfl ?_
  (refine wx rfl lV fun|_,⟨bl,rfl,bF,q1,q2⟩=>⟨rfl,?_⟩;rw[kR] at q1 q2;try simp only [xi,xd] at q2)
  refine jn<|wg 10 rfl<|wo rfl oP<|wo rfl (az (n:=bl.length+1) P6)<|wo rfl oW<|kF<|wg 1 rfl ?_
  (refine wx rfl (oS el (.inr h2) (by simp only [St.n];omega) _ (bF.snoc (L9 PT PT PT PT)) (by simp[St.ns] at hl⊢;omega)) fun|_,⟨t,ag3,rfl,ud,q5,q6,q7,q8⟩=>⟨rfl,?_⟩;rw[xa] at q5 q6)
  refine Wp.dO rfl qL (by(first|assumption|rfl)) ?_;simp only [xi,xd,St.ns] at q5 q6 hl⊢;obtain⟨r,hr,bg⟩:=Yj ud (i:=bl.length+1 - 1) PT (v:=t);have CO:=ud.ah5 hr (v:=t) q7 q8;exact wo rfl bg<|wt rfl ⟨_,rfl,CO,by rw[xt];omega,by rw[xt];omega⟩
 | @Eo k h a ha el h2=>
  have lV:=ex [a] P6 jY.ex;simp only [St.n] at hn hl⊢;obtain⟨f,hs,own,vars,tables,flags,params⟩:=p;refine wr rfl<|hZ<|wg 2 rfl<|wo rfl oP<|wo rfl (az kR)<|wo rfl oW<|jy<|wg 1 rfl ?_
  (refine wx rfl lV fun|_,⟨bl,rfl,bF,q1,q2⟩=>⟨rfl,?_⟩;rw[kR] at q1 q2;try simp only [xi,xd] at q2)
  refine jn<|wg 10 rfl<|wx rfl (qE IY.v _) fun|_,⟨i1,rfl⟩=>⟨rfl,?_⟩
  refine wg 2 rfl<|wo rfl oP<|wo rfl (az (n:=bl.length+1) P6)<|kF<|wo rfl oW<|wg 1 rfl ?_
  (refine wx rfl (oS el (.inr h2) (by simp only [St.n];omega) _ (bF.snoc (bB5 rfl PT)) (by simp[St.ns] at hl⊢;omega)) fun|_,⟨t,ag3,rfl,ud,q5,q6,q7,q8⟩=>⟨rfl,?_⟩;rw[xa] at q5 q6)
  refine Wp.dO rfl qL (by(first|assumption|rfl)) ?_;simp only [xi,xd,St.ns] at q5 q6 hl⊢;obtain⟨r,hr,bg⟩:=Yj ud (i:=bl.length+1 - 1) PT (v:=t);have CO:=ud.ah5 hr (v:=t) q7 q8;exact wo rfl bg<|wt rfl ⟨_,rfl,CO,by rw[xt];omega,by rw[xt];omega⟩
 |stop=>
  have lV:=ex [] P6 jY.ex;obtain⟨f,hs,own,vars,tables,flags,params⟩:=p;refine wr rfl<|hZ<|wg 2 rfl<|wo rfl oP<|wo rfl (az kR)<|wo rfl oW<|jy<|wg 1 rfl ?_
  (refine wx rfl lV fun|_,⟨bl,rfl,bF,q1,q2⟩=>⟨rfl,?_⟩;rw[kR] at q1 q2;try simp only [xi,xd] at q2)
  exact jn<|wg 12 rfl<|wo rfl oP<|wo rfl (az (n:=bl.length+1) P6)<|wo rfl oW<|kF<|wt rfl (vF (bF.snoc (mN PT PT PT)) Qo (by simp[St.n,St.ns] at*;omega))
theorem cb0{p:Cp}{code:gj}(hc:gL code):Rn F X 77 0 (il p code++[.sl (St.ss [])]) (pW p code (200*St.ns [])):=by
 obtain⟨f,hs,own,vars,tables,flags,params⟩:=p;exact wr rfl<|wo rfl bf<|Wp.jump rfl<|wr rfl<|wg 1 rfl<|wt rfl (vF hc PT PT)
theorem aR7{ar:rQ}{p:Cp}(hp:TW ar p){w:Wd}(hw:w.Ok)(UP:w.ar=ar):∀(m:Nat) (l:KP) (d:Nat),St.ns l<=m->m<=12->j8 w d l->∀code,gL code->code.length+200*St.ns l<=40000->Rn F X 77 0 (il p code++[.sl (St.ss l)]) (pW p code (200*St.ns l)):=by
 intro m
 induction m with
 |zero=>
  intro l d hl _ _ code hc vB;have:=nj l;obtain rfl:l=[]:=xE.1 PT;obtain⟨f,hs,own,vars,tables,flags,params⟩:=p;exact wr rfl<|wo rfl bf<|Wp.jump rfl<|wr rfl<|wg 1 rfl<|wt rfl (vF hc PT PT)
 |succ m ih=>
  intro l d hl hm hb code hc vB;have loop:∀(aa pre:KP),l=pre++aa->∀fL,gL fL->code.length<=fL.length->fL.length<=code.length+200*St.ns pre->Rn F X 77 1 ([.sl (St.ss l),jD l.length,jD pre.length]++il p fL) (pW p code (200*St.ns l)):=by
   intro aa
   induction aa with
   |nil=>
    intro pre aJ fL m5 q1 q2;rw[xj] at aJ;subst aJ;obtain⟨f,hs,own,vars,tables,flags,params⟩:=p;exact wr rfl<|nL<|wn rfl ai<|wt rfl (vF m5 q1 q2)
   |cons a aa cX=>
    intro pre aJ fL m5 q1 q2;have aD:=bG aJ;have kJ:=nj l;have ao:(St.ss l)[pre.length]? =some (St.s a):=by rw[aJ];exact vV _ _ _
    have lR:St.ns l=St.ns pre+(St.n a+St.ns aa):=by rw[aJ,St.wc];rfl
    have next:=cX (pre++[a]) (by rw[aJ,bw]);rw[xa,St.wc] at next;obtain⟨d,rfl⟩:∃x,d=x+1:=by
     cases d with
     |zero=>rw[show l=[] from hb] at aJ;simp at aJ
     |succ x=>exact⟨x,rfl⟩
    have hs:=hb a (by rw[aJ];simp);have c1:=aR0 (X:=X) hp hw UP hs PT (fun l2 h2 gf bl bF aW=>by
     rcases h2 with rfl|h2
     ·exact cb0 bF
     ·exact ih l2 d PT PT h2 bl bF PT) m5 PT
    obtain⟨kind,name,cf,bh,th,el⟩:=a;obtain⟨f,hs,own,vars,tables,flags,params⟩:=p;refine wr rfl<|nL<|wy rfl ai<|wo rfl (aA ao rfl)<|wg 1 rfl<|jy<|wg 1 rfl<|wx rfl c1 fun|_,⟨bl,rfl,bF,q3,q4⟩=>⟨rfl,?_⟩
    exact jn<|wo rfl oA<|Wp.jump rfl (next bl bF PT (by simp only [St.ns] at*;omega))
  have:=loop l [] rfl code hc PT PT;obtain⟨f,hs,own,vars,tables,flags,params⟩:=p;exact wr rfl<|wo rfl (az (mC _))<|wj this
end
section
variable{X:fm}
theorem bg2{op:Nat}(h:op<=34):Rn F X 80 0 [bD op] (fun o=>∃(tx us:aq) (p q:Int),o=[.str tx,.str us,.int .i64 p,.int .i64 q]/\0<=p/\p<=2/\0<=q/\q<=1):=by
 have:op=0\/op=1\/op=2\/op=3\/op=4\/op=5\/op=6\/op=7\/op=8\/op=9\/op=10\/op=11\/op=12\/op=13\/op=14\/op=15\/op=16\/op=17\/op=18\/op=19\/op=20\/op=21\/op=22\/op=23\/op=24\/op=25\/op=26\/op=27\/op=28\/op=29\/op=30\/op=31\/op=32\/op=33\/op=34:=PT
 rcases this with rfl|rfl|rfl|rfl|rfl|rfl|rfl|rfl|rfl|rfl|rfl|rfl|rfl|rfl|rfl|rfl|rfl|rfl|rfl|rfl|rfl|rfl|rfl|rfl|rfl|rfl|rfl|rfl|rfl|rfl|rfl|rfl|rfl|rfl|rfl<;>
 exact Rn.of (fd:=Ta) (t:=bz5) rfl rfl rfl rfl (Wp.rG rfl rfl (Wp.nV rfl rfl (Wp.aV rfl rfl rfl (wt rfl ⟨_,_,_,_,rfl,PT,PT,PT,PT⟩))))
def hD(hs:List Int):gj:=hs.map fun x=>[D.int .i64 x]
theorem K0{hs:List Int}{i:Nat}(h:i<hs.length):∃x,hs[i]? =some x/\(hD hs)[i]? =some [D.int .i64 x]:=⟨hs[i],xc h,by unfold hD;rw[xx,xc h];rfl⟩
theorem bk5(hs:List Int):(hD hs).length=hs.length:=xm _
theorem iQ{hs:List Int}{i:Nat}{x:Int}(h:(hD hs)[i]? =some [D.int .i64 x]):aL (.qK 0 1 false) [.sl (hD hs),jD i]=some (.int .i64 x):=O6 h rfl
theorem DX{hs:List Int}{i:Nat}(h:i<hs.length){v:Int}:aL (.ky 0) [.sl (hD hs),jD i,.int .i64 v]=some (.sl (hD (hs.set i v))):=by
 obtain⟨x,_,hx⟩:=K0 h;show((hD hs)[i]?).bind _=_;rw[hx];show some (D.sl ((hD hs).set i [D.int .i64 v]))=_;unfold hD;rw[List.map_set]
theorem gm{hs:List Int}{i:Nat}:aL .jf [.sl (hD hs),jD i]=some (.bool (decide (i<hs.length))):=qH (bk5 hs)
theorem sO{hs:List Int}{i:Nat}(bk:i<hs.length){v:Int}:Rn F X 82 0 [.sl (hD hs),jD i,.int .i64 v] (fun o=>∃b,o=[.bool b,.sl (hD (hs.set i v))]):=by
 obtain⟨x,hx,Cz⟩:=K0 bk;refine wr rfl<|Wp.dO rfl gm bk<|wo rfl (iQ Cz)<|Wp.aG rfl ai (fun h=> ?_) (fun h=> ?_)
 ·exact Wp.dO rfl gm bk<|wo rfl (DX bk)<|wt rfl ⟨_,rfl⟩
 ·refine Wp.dO rfl gm bk<|wo rfl (iQ Cz)<|Wp.aG rfl ay (fun h=> ?_) (fun h=> ?_)
  ·exact Wp.dO rfl gm bk<|wo rfl (DX bk)<|wt rfl ⟨_,rfl⟩
  ·exact Wp.dO rfl gm bk<|wo rfl (DX bk)<|wt rfl ⟨_,rfl⟩
theorem aD7{L:Nat}{r:kG}(hr:rZ L r):Rn F X 81 0 r (fun o=>(∃t:Nat,o=[jD t,.bool true]/\t<=L)\/o=[iD 0,.bool false]):=by
 obtain⟨op,a,b,n,rfl,h1,h2,h3,h4,h5⟩:=hr;by_cases q1:op=27\/op=28
 ·obtain⟨k,rfl⟩:=Int.eq_ofNat_of_zero_le (h2 q1).1;have:=(h2 q1).2;refine wr rfl<|Wp.aG rfl ay (fun h=> ?_) (fun h=> ?_)
  ·exact wt rfl (.inl ⟨k,rfl,PT⟩)
  ·exact wy rfl ay<|wt rfl (.inl ⟨k,rfl,PT⟩)
 ·by_cases q2:op=32\/op=33
  ·obtain⟨k,rfl⟩:=Int.eq_ofNat_of_zero_le (h3 q2).1;have:=(h3 q2).2;refine wr rfl<|wn rfl ay<|wn rfl ay<|Wp.aG rfl ay (fun h=> ?_) (fun h=> ?_)
   ·exact wt rfl (.inl ⟨k,rfl,PT⟩)
   ·exact wy rfl ay<|wt rfl (.inl ⟨k,rfl,PT⟩)
  ·exact wr rfl<|wn rfl ay<|wn rfl ay<|wn rfl ay<|wn rfl ay<|wt rfl (.inr rfl)
theorem bs8{n:Nat}(h:n<=100000):aL (.n5 1 8) [jD n,jD n,.int .i64 0]=some (.sl (List.replicate n [D.int .i64 0])):=by
 show(if _ then _ else none)=_;rw[if_pos ⟨rfl,xk _,by simp[mK];omega⟩]
theorem Wp.two{f j i:Nat}{us:kM}{t t' e':DT}{ds env:kG}{x:D}{Q:kG->Prop}(h1:aI (aZ (lk env)) us=some ds)(h2:Rn F X j 0 ds (fun o=>∃b,o=[.bool b,x]))(h3:x.cell=true)(hT:Wp F X i t (env++[.bool true,x]) Q)(hF:Wp F X i t' (env++[.bool false,x]) Q):Wp F X i (.call f j us [tt,no] t (.call f j us [ff,no] t' e')) env Q:=by
 obtain⟨_,ho,b,rfl⟩:=h2;cases b
 ·refine Wp.HL h1 ⟨_,ho,rfl⟩ rfl (Wp.jU h1 ⟨_,ho,rfl⟩ ?_ hF);show(true&& (x.cell&&true))=true;rw[h3];rfl
 ·refine Wp.jU h1 ⟨_,ho,rfl⟩ ?_ hT;show(true&& (x.cell&&true))=true;rw[h3];rfl
def HQ(o:kG):Prop:=∃(t:Int) (b:Bool),o=[.int .i64 t,.bool b]
theorem bg9{a b:Int}:aL .mx [.int .i64 a,.int .i64 b]=some (.int .i64 (if a<b then b else a)):=rfl
theorem yO{a b c:Int}:aL .mx [.int .i64 a,.int .i64 b,.int .i64 c]=some (.int .i64 (if(if a<b then b else a)<c then c else(if a<b then b else a))):=rfl
theorem KX{hs:List Int}{m:Int}{i:Nat}{v:Int}(h:∀x∈hs,-1<=x/\x<=m)(hv: -1<=v/\v<=m):∀x∈hs.set i v,-1<=x/\x<=m:=fun x hx=>by
 rcases List.mem_or_eq_of_mem_set hx with hx|rfl
 ·exact h x hx
 ·exact hv
theorem sR{hs:List Int}{m m':Int}(h:∀x∈hs,-1<=x/\x<=m)(hm:m<=m'):∀x∈hs,-1<=x/\x<=m':=fun x hx=>by have:=h x hx;omega
theorem aw9{code:gj}(hc:gL code)(hl:code.length<=50000):∀(f i:Nat),i+f=code.length->∀(hs:List Int) (Cr:Int),hs.length=code.length+1->(∀x∈hs,-1<=x/\x<=i)->Rn F X 83 2 [.sl code,.int .i64 Cr,jD code.length,jD i,.sl (hD hs)] HQ:=by
 intro f
 induction f with
 |zero=>
  intro i hi hs Cr aW hx;obtain rfl:i=code.length:=PT
  obtain⟨x,_,Cz⟩:=K0 (hs:=hs) (i:=code.length) PT;refine wr rfl<|wn rfl ai<|wo rfl bf<|wy rfl gm<|wo rfl (iQ Cz)<|Wp.aG rfl kv (fun h=> ?_) (fun h=> ?_)
  ·exact wt rfl ⟨_,_,rfl⟩
  ·exact wt rfl ⟨_,_,rfl⟩
 |succ f ih=>
  intro i hi hs Cr aW hx;have ov:i<code.length:=PT
  obtain⟨x,pL,Cz⟩:=K0 (hs:=hs) (i:=i) PT;have Ui:=hx x (xu pL);have fb:=hc code[i] (List.getElem_mem ov);have ao:code[i]? =some code[i]:=xc ov;have ht:=aD7 (X:=X) fb;obtain⟨op,a,b,n,e,h1,h2,h3,h4,h5⟩:=fb;rw[e] at ao ht;have ak6:=bg2 (X:=X) h1;obtain⟨y,hy,hyx⟩:∃y:Int,(if x<0 then 0 else x)=y/\0<=y/\y<=i:=⟨_,rfl,by split<;>omega⟩;have cL:∀z∈hs.set i y,-1<=z/\z<=i:=KX hx PT;have dQ:(hs.set i y).length=code.length+1:=by rw[xt];exact aW
  have kn:(hD (hs.set i y))[i]? =some [D.int .i64 y]:=by unfold hD;rw[xx,List.getElem?_set_self PT];rfl
  have hm:aL .mx [.int .i64 x,.int .i64 0]=some (.int .i64 y):=by rw[bg9,hy]
  have cW:∀(ko:List Int) (Cr:Int),ko.length=code.length+1->(∀z∈ko,-1<=z/\z<=((i+1:Nat):Int))->Rn F X 83 2 [.sl code,.int .i64 Cr,jD code.length,jD (i+1),.sl (hD ko)] HQ:=fun ko Cr h1 h2=>ih (i+1) PT ko Cr h1 h2
  have mX:∀(v:Int) (k:Nat),-1<=v/\v<=((i+1:Nat):Int)->(∀z∈(hs.set i y).set k v,-1<=z/\z<=((i+1:Nat):Int)):=fun v k hv=>KX (sR cL PT) hv
  have pN:∀(v:Int) (k k':Nat),-1<=v/\v<=((i+1:Nat):Int)->(∀z∈((hs.set i y).set k v).set k' v,-1<=z/\z<=((i+1:Nat):Int)):=fun v k k' hv=>KX (mX v k hv) hv
  obtain⟨_,ho,hq⟩:=ht;rcases hq with⟨t,rfl,htL⟩|rfl
  ·have ug:Rn F X 81 0 [bD op,.int .i64 a,.int .i64 b,.int .i64 n] (·=[jD t,.bool true]):=⟨_,ho,rfl⟩;refine wr rfl<|wy rfl ai<|wo rfl (aA ao rfl)<|wg 1 rfl<|oq<|wy rfl gm<|wo rfl (iQ Cz)<|wo rfl hm<|wy rfl gm<|wo rfl (DX PT)<|wg 1 rfl<|wx rfl ak6 fun|_,⟨tx,us,pp,qq,rfl,p0,p1,r0,r1⟩=>⟨rfl,?_⟩
   refine hZ<|Wp.aG rfl ay (fun h=> ?_) (fun h=> ?_)
   ·refine wo rfl oI<|wy rfl gm<|wo rfl (iQ kn)<|Wp.aG rfl ai (fun h=> ?_) (fun h=> ?_)
    ·exact wt rfl ⟨_,_,rfl⟩
    ·refine wn rfl ay<|wy rfl gm<|wo rfl (iQ kn)<|wo rfl (sQ PT PT)<|jy<|wo rfl oI<|wy rfl gm<|wo rfl (iQ kn)<|wo rfl yO<|wy rfl gP<|wy rfl gP<|wo rfl oA<|xQ<|wg 1 rfl<|Wp.two rfl (sO QS) rfl ?_ ?_
     ·refine wl rfl ug rfl<|wg 1 rfl<|Wp.two rfl (sO QS) rfl ?_ ?_
      ·exact wo rfl oA<|jn<|Wp.jump rfl (cW _ _ (by first|exact dQ|(rw[xt];exact dQ)|(rw[xt,xt];exact dQ)) (by first|exact sR cL PT|exact mX _ _ PT|exact pN _ _ _ PT))
      ·exact wt rfl ⟨_,_,rfl⟩
     ·exact wt rfl ⟨_,_,rfl⟩
   ·refine Wp.aG rfl ay (fun h=> ?_) (fun h=> ?_)
    ·refine wo rfl oI<|wy rfl gm<|wo rfl (iQ kn)<|Wp.aG rfl ai (fun h=> ?_) (fun h=> ?_)
     ·exact wt rfl ⟨_,_,rfl⟩
     ·refine wn rfl ay<|wy rfl gm<|wo rfl (iQ kn)<|wo rfl (sQ PT PT)<|jy<|wo rfl oI<|wy rfl gm<|wo rfl (iQ kn)<|wo rfl yO<|wy rfl gP<|wy rfl gP<|wo rfl oA<|xQ<|wg 1 rfl<|Wp.two rfl (sO QS) rfl ?_ ?_
      ·refine wl rfl ug rfl<|wg 1 rfl<|Wp.two rfl (sO QS) rfl ?_ ?_
       ·exact wo rfl oA<|jn<|Wp.jump rfl (cW _ _ (by first|exact dQ|(rw[xt];exact dQ)|(rw[xt,xt];exact dQ)) (by first|exact sR cL PT|exact mX _ _ PT|exact pN _ _ _ PT))
       ·exact wt rfl ⟨_,_,rfl⟩
      ·exact wt rfl ⟨_,_,rfl⟩
    ·refine wy rfl gm<|wo rfl (iQ kn)<|Wp.aG rfl ai (fun h=> ?_) (fun h=> ?_)
     ·exact wt rfl ⟨_,_,rfl⟩
     ·refine Wp.aG rfl ay (fun h=> ?_) (fun h=> ?_)
      ·refine wy rfl gm<|wo rfl (iQ kn)<|Wp.aG rfl gP (fun h=> ?_) (fun h=> ?_)
       ·exact wt rfl ⟨_,_,rfl⟩
       ·refine wy rfl gm<|wo rfl (iQ kn)<|wo rfl (sQ PT PT)<|jy<|wo rfl oI<|wy rfl gm<|wo rfl (iQ kn)<|wo rfl yO<|wy rfl gP<|wn rfl gP<|wl rfl ug rfl<|om<|wg 1 rfl<|Wp.two rfl (sO QS) rfl ?_ ?_
        ·exact wo rfl oA<|Wp.jump rfl (cW _ _ (by first|exact dQ|(rw[xt];exact dQ)|(rw[xt,xt];exact dQ)) (by first|exact sR cL PT|exact mX _ _ PT|exact pN _ _ _ PT))
        ·exact wt rfl ⟨_,_,rfl⟩
      ·refine wy rfl gm<|wo rfl (iQ kn)<|wo rfl (sQ PT PT)<|wo rfl oI<|jy<|wy rfl gm<|wo rfl (iQ kn)<|wo rfl yO<|Wp.aG rfl gP (fun h=> ?_) (fun h=> ?_)
       ·refine wy rfl gP<|wo rfl oA<|wg 1 rfl<|Wp.two rfl (sO QS) rfl ?_ ?_
        ·refine wg 1 rfl<|om<|wL rfl ug rfl<|wg 1 rfl<|Wp.two rfl (sO QS) rfl ?_ ?_
         ·exact wo rfl oA<|Wp.jump rfl (cW _ _ (by first|exact dQ|(rw[xt];exact dQ)|(rw[xt,xt];exact dQ)) (by first|exact sR cL PT|exact mX _ _ PT|exact pN _ _ _ PT))
         ·exact wt rfl ⟨_,_,rfl⟩
        ·exact wt rfl ⟨_,_,rfl⟩
       ·refine wl rfl ug rfl<|wg 1 rfl<|Wp.two rfl (sO QS) rfl ?_ ?_
        ·exact wo rfl oA<|oR<|Wp.jump rfl (cW _ _ (by first|exact dQ|(rw[xt];exact dQ)|(rw[xt,xt];exact dQ)) (by first|exact sR cL PT|exact mX _ _ PT|exact pN _ _ _ PT))
        ·exact wt rfl ⟨_,_,rfl⟩
  ·have ug:Rn F X 81 0 [bD op,.int .i64 a,.int .i64 b,.int .i64 n] (·=[iD 0,.bool false]):=⟨_,ho,rfl⟩;refine wr rfl<|wy rfl ai<|wo rfl (aA ao rfl)<|wg 1 rfl<|oq<|wy rfl gm<|wo rfl (iQ Cz)<|wo rfl hm<|wy rfl gm<|wo rfl (DX PT)<|wg 1 rfl<|wx rfl ak6 fun|_,⟨tx,us,pp,qq,rfl,p0,p1,r0,r1⟩=>⟨rfl,?_⟩
   refine hZ<|Wp.aG rfl ay (fun h=> ?_) (fun h=> ?_)
   ·refine wo rfl oI<|wy rfl gm<|wo rfl (iQ kn)<|Wp.aG rfl ai (fun h=> ?_) (fun h=> ?_)
    ·exact wt rfl ⟨_,_,rfl⟩
    ·refine wn rfl ay<|wy rfl gm<|wo rfl (iQ kn)<|wo rfl (sQ PT PT)<|jy<|wo rfl oI<|wy rfl gm<|wo rfl (iQ kn)<|wo rfl yO<|wy rfl gP<|wy rfl gP<|wo rfl oA<|xQ<|wg 1 rfl<|Wp.two rfl (sO QS) rfl ?_ ?_
     ·exact wl rfl ug rfl<|wo rfl oA<|Wp.jump rfl (cW _ _ (by first|exact dQ|(rw[xt];exact dQ)|(rw[xt,xt];exact dQ)) (by first|exact sR cL PT|exact mX _ _ PT|exact pN _ _ _ PT))
     ·exact wt rfl ⟨_,_,rfl⟩
   ·refine Wp.aG rfl ay (fun h=> ?_) (fun h=> ?_)
    ·refine wo rfl oI<|wy rfl gm<|wo rfl (iQ kn)<|Wp.aG rfl ai (fun h=> ?_) (fun h=> ?_)
     ·exact wt rfl ⟨_,_,rfl⟩
     ·refine wn rfl ay<|wy rfl gm<|wo rfl (iQ kn)<|wo rfl (sQ PT PT)<|jy<|wo rfl oI<|wy rfl gm<|wo rfl (iQ kn)<|wo rfl yO<|wy rfl gP<|wy rfl gP<|wo rfl oA<|xQ<|wg 1 rfl<|Wp.two rfl (sO QS) rfl ?_ ?_
      ·exact wl rfl ug rfl<|wo rfl oA<|Wp.jump rfl (cW _ _ (by first|exact dQ|(rw[xt];exact dQ)|(rw[xt,xt];exact dQ)) (by first|exact sR cL PT|exact mX _ _ PT|exact pN _ _ _ PT))
      ·exact wt rfl ⟨_,_,rfl⟩
    ·refine wy rfl gm<|wo rfl (iQ kn)<|Wp.aG rfl ai (fun h=> ?_) (fun h=> ?_)
     ·exact wt rfl ⟨_,_,rfl⟩
     ·refine Wp.aG rfl ay (fun h=> ?_) (fun h=> ?_)
      ·refine wy rfl gm<|wo rfl (iQ kn)<|Wp.aG rfl gP (fun h=> ?_) (fun h=> ?_)
       ·exact wt rfl ⟨_,_,rfl⟩
       ·exact wy rfl gm<|wo rfl (iQ kn)<|wo rfl (sQ PT PT)<|jy<|wo rfl oI<|wy rfl gm<|wo rfl (iQ kn)<|wo rfl yO<|wy rfl gP<|wn rfl gP<|wl rfl ug rfl<|om<|wo rfl oA<|Wp.jump rfl (cW _ _ (by first|exact dQ|(rw[xt];exact dQ)|(rw[xt,xt];exact dQ)) (by first|exact sR cL PT|exact mX _ _ PT|exact pN _ _ _ PT))
      ·refine wy rfl gm<|wo rfl (iQ kn)<|wo rfl (sQ PT PT)<|wo rfl oI<|jy<|wy rfl gm<|wo rfl (iQ kn)<|wo rfl yO<|Wp.aG rfl gP (fun h=> ?_) (fun h=> ?_)
       ·refine wy rfl gP<|wo rfl oA<|wg 1 rfl<|Wp.two rfl (sO QS) rfl ?_ ?_
        ·exact wg 1 rfl<|om<|wL rfl ug rfl<|wo rfl oA<|Wp.jump rfl (cW _ _ (by first|exact dQ|(rw[xt];exact dQ)|(rw[xt,xt];exact dQ)) (by first|exact sR cL PT|exact mX _ _ PT|exact pN _ _ _ PT))
        ·exact wt rfl ⟨_,_,rfl⟩
       ·exact wl rfl ug rfl<|wo rfl oA<|om<|Wp.jump rfl (cW _ _ (by first|exact dQ|(rw[xt];exact dQ)|(rw[xt,xt];exact dQ)) (by first|exact sR cL PT|exact mX _ _ PT|exact pN _ _ _ PT))
theorem aB5{code:gj}(hc:gL code)(hl:code.length<=50000):Rn F X 83 0 [.sl code] HQ:=by
 have loop:∀(f i:Nat),i+f=code.length+1->∀(hs:List Int),hs.length=code.length+1->(∀x∈hs,-1<=x/\x<=0)->Rn F X 83 1 [.sl code,jD (code.length+1),jD i,.sl (hD hs)] HQ:=by
  intro f
  induction f with
  |zero=>
   intro i hi hs h1 h2;exact wr rfl<|wn rfl ai<|wo rfl bf<|Wp.jump rfl (aw9 hc hl code.length 0 PT hs 0 h1 h2)
  |succ f ih=>
   intro i hi hs h1 h2;have next:=ih (i+1) PT (hs.set i (-1)) (by rw[xt];exact h1) (KX h2 PT);exact wr rfl<|wy rfl ai<|wy rfl gm<|wo rfl (DX PT)<|wo rfl oA<|wj next
 have e:hD (List.replicate (code.length+1) 0)=List.replicate (code.length+1) [D.int .i64 0]:=by unfold hD;rw[List.map_replicate]
 have h0:=loop (code.length+1) 0 PT (List.replicate (code.length+1) 0) P6 (fun x hx=>by have:=List.eq_of_mem_replicate hx;omega);rw[e] at h0;exact wr rfl<|wo rfl bf<|wo rfl oA<|wo rfl (bs8 PT)<|wo rfl (az (List.length_replicate))<|w5<|wj h0
end
structure Un where
 n:Nat
 t:Int
 c:gj
abbrev uD(u:Un):kG:=[jD u.n,.int .i64 u.t,.sl u.c]
section
variable{X:fm}{ar:rQ}{f:dg}{hss:List (List aq)}{i:Nat}{c:Cm}{al:uo}{ints tables:Nat}
structure PO (f:dg) (hss:List (List aq)) (i:Nat) (p:Cp):Prop where
 f:p.f=f
 hs:p.hs=hss
 own:p.own=i
 v:p.vars.length<=1000
 t:p.tables.length<=1000
 fl:p.flags.length<=1000
def UQ(f:dg)(hss:List (List aq))(i:Nat)(o:kG):Prop:=∃u p' fL,o=uD u++il p' fL/\PO f hss i p'
theorem Ps(hf:gZ ar f)(hh:hss.length=ar.length)(o5:∀l∈hss,l.length<=1000)(aQ:ar[i]? =some al)(i3:ints<=3)(t1:tables<=1){h:Hn}{k:Nat}(ho:sh ints tables f.flags.length i ar al k h){p:Cp}(hp:PO f hss i p){code:gj}:Rn F X 78 0 (il p code++h.s) (UQ f hss i):=by
 obtain⟨m,hm,mY,hb⟩:=ho.mm;have cS:=hf.jC;have fU:=(cS al (xu aQ)).2.2 m (xu hm);have gI:=ho.n;have hn:=hf.n;obtain⟨pf,rk,own,vars,Pv,flags,params⟩:=p;obtain⟨e1,e2,e3,v1,v2,v3⟩:=hp;simp only at e1 e2 e3 v1 v2 v3;subst e1;subst e2;subst e3;obtain⟨h1,h2,h3⟩:=h;simp only at mY hb gI;have iZ:h2.length=m:=by rw[mY];simp[aP]
 have gd:(strs h2).length=h2.length:=xm _;have FL:TW ar ⟨pf,rk,own,vars,Pv,flags,h2⟩:=⟨⟨v1,v2,v3,by show h2.length<=1000;omega⟩,hf,hh,o5,by show own<rk.length;rw[hh];exact iR aQ⟩;have c1:=aR7 (X:=X) FL (w:=⟨⟨ints,tables,pf.flags.length,m⟩,ar,own⟩) ⟨⟨i3,t1,hf.flags.1,fU⟩,hn.2.2,fun l h=>(cS l h).2⟩ rfl 12 h3 4 gI (xk _) hb [] (fun r h=>by cases h) Qo;refine wr rfl<|nL<|wg 1 rfl<|wx rfl c1 fun|_,⟨bl,rfl,bF,q1,q2⟩=>⟨rfl,?_⟩
 refine xQ<|wg 1 rfl ?_;obtain⟨_,hq,t,b,rfl⟩:=aB5 (X:=X) bF (by simp at q2;omega);have c2:Rn F X 83 0 [.sl bl] (·=[.int .i64 t,.bool b]):=⟨_,hq,rfl⟩;cases b
 ·exact wL rfl c2 rfl<|wo rfl (az gd)<|wt rfl ⟨⟨h2.length,t,bl⟩,⟨pf,rk,own,vars,Pv,flags,h2⟩,bl,rfl,rfl,rfl,rfl,v1,v2,v3⟩
 ·exact wL rfl c2 rfl<|wo rfl (az gd)<|wt rfl ⟨⟨h2.length,t,bl⟩,⟨pf,rk,own,vars,Pv,flags,h2⟩,bl,rfl,rfl,rfl,rfl,v1,v2,v3⟩
theorem Du{n k:Nat}(hn:n<=3)(hk:k<n):Rn F X 43 0 [.sl (strs (aP 104 n)),.str (nm 104 k)] (·=[iD k]):=(Dt (X:=X) (l:=aP 104 n) (by simp[aP];omega) (nm 104 k)).mono fun o h=>by
 rcases h with⟨_,j,rfl,hj,he⟩|⟨fy,_⟩
 ·rw[aP,xx] at he;have pS:j<n:=by simpa[aP] using hj
  rw[List.getElem?_range pS] at he;have he:nm 104 j=nm 104 k:=by simpa using he
  rw[(rS PT PT PT PT he).2]
 ·exact absurd (aa8 hk) fy
def CQ(f:dg)(hss:List (List aq))(Rr:Mm)(o:kG):Prop:=∃(us fs:gj) (p':Cp) (fL:gj),o=[.sl (strs Rr),.sl us,.sl fs]++il p' fL/\p'.f=f/\p'.hs=hss
theorem bA1(hf:gZ ar f)(hh:hss.length=ar.length)(o5:∀l∈hss,l.length<=1000)(aQ:ar[i]? =some al)(i3:ints<=3)(t1:tables<=1)(hn:al.length=1)(dK:c.aT.length<=2)(bI:∀l∈c.aT,1<=l.length/\l.length<=al.length/\∀k h,l[k]? =some h->sh ints tables f.flags.length i ar al k h):
 ∀(aa pre:NN),c.aT=pre++aa->∀(p:Cp) (code:gj),PO f hss i p->∀(U G:gj),U.length=pre.length->G.length=pre.length->∀(u0:Un) (g0:Bool),Rn F X 79 3 ([.sl (ca c.aT),jD c.aT.length,jD pre.length]++il p code++[.sl (strs (aP 104 1)),.sl U,.sl G]++uD u0++[.bool g0]) (CQ f hss (aP 104 1)):=by
 intro aa
 induction aa with
 |nil=>
  intro pre aJ p code hp U G hU hG u0 g0;rw[xj] at aJ;have hp':pre.length=c.aT.length:=by rw[aJ]
  exact wr rfl<|jy<|wn rfl ai<|wt rfl ⟨U,G,p,code,rfl,hp.f,hp.hs⟩
 |cons v aa ih=>
  intro pre aJ p code hp U G hU hG u0 g0;have aD:=bG aJ;have ao:(ca c.aT)[pre.length]? =some [.sl (v.map Hn.s)]:=cA (f:=fun l:List Hn=>[D.sl (l.map Hn.s)]) aJ;have hv:=bI v (by rw[aJ];simp);have next:=ih (pre++[v]) (by rw[aJ,bw]);rw[xa] at next;have mJ:∀(ee bt:List Hn),v=bt++ee->∀(p:Cp) (code:gj),PO f hss i p->∀(u0:Un) (g0:Bool),Rn F X 79 6 ([.sl (ca c.aT),jD c.aT.length,jD pre.length,.sl (v.map Hn.s),jD v.length,jD bt.length]++il p code++[.sl (strs (aP 104 1)),.sl U,.sl G]++uD u0++[.bool g0]) (CQ f hss (aP 104 1)):=by
   intro ee
   induction ee with
   |nil=>
    intro bt bH p code hp u0 g0;rw[xj] at bH;subst bH;exact wr rfl<|xR<|wn rfl ai<|wg 3 rfl<|wo rfl oP<|wg 2 rfl<|oR<|wg 1 rfl<|wo rfl oP<|wo rfl oA<|Wp.jump rfl (next p code hp _ _ (by simp[hU]) (by simp[hG]) u0 g0)
   |cons h ee mV=>
    intro bt bH p code hp u0 g0;have ww:=bG bH;have gW:=cA (f:=Hn.s) bH;have fQ:=mV (bt++[h]) (by rw[bH,bw]);rw[xa] at fQ;have ho:=hv.2.2 bt.length h (v7 bH);have cU:=Ps (X:=X) hf hh o5 aQ i3 t1 ho hp (code:=code);have cI:=Du (X:=X) (n:=1) (k:=bt.length) PT PT;rw[<-ho.name] at cI;obtain⟨h1,h2,h3⟩:=h;have hk:bt.length=0:=PT
    simp only at cI;have e3:bt.length+[(⟨h1,h2,h3⟩:Hn)].length=bt.length+1:=rfl;rw[e3] at fQ;generalize bt.length=k at*;rcases hk with rfl
    ·refine wr rfl<|xR<|wy rfl ai<|wo rfl (aA gW rfl)<|wg 1 rfl<|oR<|wl rfl cI rfl<|wg 1 rfl<|wx rfl cU fun|_,⟨u,p2,bl,rfl,aO⟩=>⟨rfl,?_⟩
     dsimp only [eA,Ex.r,St.r,List.cons_append,List.nil_append,lh,lg,k9,kZ,kY,Hn.s,il];exact wo rfl oA<|wj (fQ p2 bl aO u true)
  exact wr rfl<|jy<|wy rfl ai<|wo rfl (aA ao rfl)<|wg 1 rfl<|qi<|wo rfl (az (cq _ _))<|wj (mJ v [] rfl p code hp u0 g0)
theorem bA0(hf:gZ ar f)(hh:hss.length=ar.length)(o5:∀l∈hss,l.length<=1000)(aQ:ar[i]? =some al)(i3:ints<=3)(t1:tables<=1)(hn:al.length=2)(dK:c.aT.length<=2)(bI:∀l∈c.aT,1<=l.length/\l.length<=al.length/\∀k h,l[k]? =some h->sh ints tables f.flags.length i ar al k h):
 ∀(aa pre:NN),c.aT=pre++aa->∀(p:Cp) (code:gj),PO f hss i p->∀(U G:gj),U.length=pre.length->G.length=pre.length->∀(u0 u1:Un) (g0 g1:Bool),Rn F X 79 4 ([.sl (ca c.aT),jD c.aT.length,jD pre.length]++il p code++[.sl (strs (aP 104 2)),.sl U,.sl G]++uD u0++uD u1++[.bool g0,.bool g1]) (CQ f hss (aP 104 2)):=by
 intro aa
 induction aa with
 |nil=>
  intro pre aJ p code hp U G hU hG u0 u1 g0 g1;rw[xj] at aJ;have hp':pre.length=c.aT.length:=by rw[aJ]
  exact wr rfl<|xQ<|wn rfl ai<|wt rfl ⟨U,G,p,code,rfl,hp.f,hp.hs⟩
 |cons v aa ih=>
  intro pre aJ p code hp U G hU hG u0 u1 g0 g1;have aD:=bG aJ;have ao:(ca c.aT)[pre.length]? =some [.sl (v.map Hn.s)]:=cA (f:=fun l:List Hn=>[D.sl (l.map Hn.s)]) aJ;have hv:=bI v (by rw[aJ];simp);have next:=ih (pre++[v]) (by rw[aJ,bw]);rw[xa] at next;have mJ:∀(ee bt:List Hn),v=bt++ee->∀(p:Cp) (code:gj),PO f hss i p->∀(u0 u1:Un) (g0 g1:Bool),Rn F X 79 7 ([.sl (ca c.aT),jD c.aT.length,jD pre.length,.sl (v.map Hn.s),jD v.length,jD bt.length]++il p code++[.sl (strs (aP 104 2)),.sl U,.sl G]++uD u0++uD u1++[.bool g0,.bool g1]) (CQ f hss (aP 104 2)):=by
   intro ee
   induction ee with
   |nil=>
    intro bt bH p code hp u0 u1 g0 g1;rw[xj] at bH;subst bH;exact wr rfl<|oR<|wn rfl ai<|wg 3 rfl<|wo rfl oP<|wg 2 rfl<|jn<|wg 1 rfl<|wo rfl oP<|wo rfl oA<|Wp.jump rfl (next p code hp _ _ (by simp[hU]) (by simp[hG]) u0 u1 g0 g1)
   |cons h ee mV=>
    intro bt bH p code hp u0 u1 g0 g1;have ww:=bG bH;have gW:=cA (f:=Hn.s) bH;have fQ:=mV (bt++[h]) (by rw[bH,bw]);rw[xa] at fQ;have ho:=hv.2.2 bt.length h (v7 bH);have cU:=Ps (X:=X) hf hh o5 aQ i3 t1 ho hp (code:=code);have cI:=Du (X:=X) (n:=2) (k:=bt.length) PT PT;rw[<-ho.name] at cI;obtain⟨h1,h2,h3⟩:=h;have hk:bt.length=0\/bt.length=1:=PT
    simp only at cI;have e3:bt.length+[(⟨h1,h2,h3⟩:Hn)].length=bt.length+1:=rfl;rw[e3] at fQ;generalize bt.length=k at*;rcases hk with rfl|rfl
    ·refine wr rfl<|oR<|wy rfl ai<|wo rfl (aA gW rfl)<|wg 1 rfl<|jn<|wl rfl cI rfl<|wg 1 rfl<|wx rfl cU fun|_,⟨u,p2,bl,rfl,aO⟩=>⟨rfl,?_⟩
     exact IB<|wo rfl oA<|wj (fQ p2 bl aO u u1 true g1)
    ·refine wr rfl<|oR<|wy rfl ai<|wo rfl (aA gW rfl)<|wg 1 rfl<|jn<|wl rfl cI rfl<|wg 1 rfl<|wx rfl cU fun|_,⟨u,p2,bl,rfl,aO⟩=>⟨rfl,?_⟩
     exact IB<|wo rfl oA<|wj (fQ p2 bl aO u0 u g0 true)
  exact wr rfl<|xQ<|wy rfl ai<|wo rfl (aA ao rfl)<|wg 1 rfl<|jL<|wo rfl (az (cq _ _))<|wj (mJ v [] rfl p code hp u0 u1 g0 g1)
theorem bz9(hf:gZ ar f)(hh:hss.length=ar.length)(o5:∀l∈hss,l.length<=1000)(aQ:ar[i]? =some al)(i3:ints<=3)(t1:tables<=1)(hn:al.length=3)(dK:c.aT.length<=2)(bI:∀l∈c.aT,1<=l.length/\l.length<=al.length/\∀k h,l[k]? =some h->sh ints tables f.flags.length i ar al k h):
 ∀(aa pre:NN),c.aT=pre++aa->∀(p:Cp) (code:gj),PO f hss i p->∀(U G:gj),U.length=pre.length->G.length=pre.length->∀(u0 u1 u2:Un) (g0 g1 g2:Bool),Rn F X 79 5 ([.sl (ca c.aT),jD c.aT.length,jD pre.length]++il p code++[.sl (strs (aP 104 3)),.sl U,.sl G]++uD u0++uD u1++uD u2++[.bool g0,.bool g1,.bool g2]) (CQ f hss (aP 104 3)):=by
 intro aa
 induction aa with
 |nil=>
  intro pre aJ p code hp U G hU hG u0 u1 u2 g0 g1 g2;rw[xj] at aJ;have hp':pre.length=c.aT.length:=by rw[aJ]
  exact wr rfl<|MW<|wn rfl ai<|wt rfl ⟨U,G,p,code,rfl,hp.f,hp.hs⟩
 |cons v aa ih=>
  intro pre aJ p code hp U G hU hG u0 u1 u2 g0 g1 g2;have aD:=bG aJ;have ao:(ca c.aT)[pre.length]? =some [.sl (v.map Hn.s)]:=cA (f:=fun l:List Hn=>[D.sl (l.map Hn.s)]) aJ;have hv:=bI v (by rw[aJ];simp);have next:=ih (pre++[v]) (by rw[aJ,bw]);rw[xa] at next;have mJ:∀(ee bt:List Hn),v=bt++ee->∀(p:Cp) (code:gj),PO f hss i p->∀(u0 u1 u2:Un) (g0 g1 g2:Bool),Rn F X 79 8 ([.sl (ca c.aT),jD c.aT.length,jD pre.length,.sl (v.map Hn.s),jD v.length,jD bt.length]++il p code++[.sl (strs (aP 104 3)),.sl U,.sl G]++uD u0++uD u1++uD u2++[.bool g0,.bool g1,.bool g2]) (CQ f hss (aP 104 3)):=by
   intro ee
   induction ee with
   |nil=>
    intro bt bH p code hp u0 u1 u2 g0 g1 g2;rw[xj] at bH;subst bH;exact wr rfl<|jn<|wn rfl ai<|wg 3 rfl<|wo rfl oP<|wg 2 rfl<|kF<|wg 1 rfl<|wo rfl oP<|wo rfl oA<|Wp.jump rfl (next p code hp _ _ (by simp[hU]) (by simp[hG]) u0 u1 u2 g0 g1 g2)
   |cons h ee mV=>
    intro bt bH p code hp u0 u1 u2 g0 g1 g2;have ww:=bG bH;have gW:=cA (f:=Hn.s) bH;have fQ:=mV (bt++[h]) (by rw[bH,bw]);rw[xa] at fQ;have ho:=hv.2.2 bt.length h (v7 bH);have cU:=Ps (X:=X) hf hh o5 aQ i3 t1 ho hp (code:=code);have cI:=Du (X:=X) (n:=3) (k:=bt.length) PT PT;rw[<-ho.name] at cI;obtain⟨h1,h2,h3⟩:=h;have hk:bt.length=0\/bt.length=1\/bt.length=2:=PT
    simp only at cI;have e3:bt.length+[(⟨h1,h2,h3⟩:Hn)].length=bt.length+1:=rfl;rw[e3] at fQ;generalize bt.length=k at*;rcases hk with rfl|rfl|rfl
    ·refine wr rfl<|jn<|wy rfl ai<|wo rfl (aA gW rfl)<|wg 1 rfl<|kF<|wl rfl cI rfl<|wg 1 rfl<|wx rfl cU fun|_,⟨u,p2,bl,rfl,aO⟩=>⟨rfl,?_⟩
     exact Cn<|wo rfl oA<|wj (fQ p2 bl aO u u1 u2 true g1 g2)
    ·refine wr rfl<|jn<|wy rfl ai<|wo rfl (aA gW rfl)<|wg 1 rfl<|kF<|wl rfl cI rfl<|wg 1 rfl<|wx rfl cU fun|_,⟨u,p2,bl,rfl,aO⟩=>⟨rfl,?_⟩
     exact Cn<|wo rfl oA<|wj (fQ p2 bl aO u0 u u2 g0 true g2)
    ·refine wr rfl<|jn<|wy rfl ai<|wo rfl (aA gW rfl)<|wg 1 rfl<|kF<|wl rfl cI rfl<|wg 1 rfl<|wx rfl cU fun|_,⟨u,p2,bl,rfl,aO⟩=>⟨rfl,?_⟩
     exact Cn<|wo rfl oA<|wj (fQ p2 bl aO u0 u1 u g0 g1 true)
  exact wr rfl<|MW<|wy rfl ai<|wo rfl (aA ao rfl)<|wg 1 rfl<|ol<|wo rfl (az (cq _ _))<|wj (mJ v [] rfl p code hp u0 u1 u2 g0 g1 g2)
end
end Go.Proofs.YthicpeihkkokmaaGreatDoor
