/- What these functions answer. -/
import Derived.Test.YthicpeihkkokmaaGreatDoorP6
import Derived.KernelRfl
set_option linter.unusedVariables false
set_option linter.unusedSimpArgs false
set_option maxHeartbeats 4000000
set_option maxRecDepth 100000
namespace Go.Proofs.YthicpeihkkokmaaGreatDoor
open Go.Ex Go.RowKit Go.Fl
variable{X:Bv}{c:Cm}{n bys m ind kind:Nat}{V:Ca}{l bf:List Fl.Ex}{e:Fl.Ex}{t:EH}{name:aq}{o:Option (List D)}
theorem _root_.Go.NY{p:Prop}(h:p:=by first|omega|(simp only [xa,xi,xd];omega)):p:=h
theorem _root_.Go.Pe{p:Prop}(h:p:=by simp only [xa,xi,xd];omega):p:=h
section
variable{ar:Dw}{f:dj}{hss:List (List aq)}{i:Nat}{al:Es}
abbrev sT(hss:List (List aq)):Ca:=hss.map fun l=>[.sl (strs l)]
theorem Nk(l:L5)(s:aq):strs l++[[.str s]]=strs (l++[s]):=by simp[strs]
theorem kT(l:L5):(strs l).length=l.length:=xm _
theorem aI9(hf:gU ar f)(hi:f.comps[i]? =some c)(aR:ar[i]? =some al)(hh:hss.length=ar.length)(oE:∀l∈hss,l.length<=1000)(iZ:hss[i]? =some (aP 104 al.length)){p:Cp}(hpf:p.f=f)(uA:p.hs=hss){code:Ca}:Rn F X 79 0 (hY p code++[jD i]) (CQ f hss (aP 104 al.length)):=by
 have Ey:=hf.comps i c hi;obtain⟨ints,tables,MF,i1,i3,t1,yO,Kt,lX,dJ,hvl,bH⟩:=Ey.rest;rw[aR] at yO;cases yO;have ww:=hf.n;have ag0:=hf.ji al (xu aR);have hvn:c.vars.length=ints+1+tables:=by rw[Kt];exact MP _ _
 have bK:=hf.flags.1;have ao:(sT hss)[i]? =some [.sl (strs (aP 104 al.length))]:=by rw[xx,iZ];rfl
 have hN:al.length=1\/al.length=2\/al.length=3:=MK
 obtain⟨pf,qD,own,pv,pt,pfl,params⟩:=p;simp only at hpf uA;subst hpf;subst uA;have fin:∀(va ta fa:L5),va.length<=1000->ta.length<=1000->fa.length<=1000->Rn F X 79 2 [jD i,.sl (c.vars.map Vr.s),jD c.vars.length,jD c.vars.length,.str pf.name,.sl (pf.flags.map Fg.d),.sl (pf.links.map Lk.d),.sl (pf.comps.map Cm.s),.sl (sT qD),.sl (strs va),.sl (strs ta),.sl (strs fa),.sl (strs params),.sl code,.str c.name,.sl (ca c.aS)] (CQ pf qD (aP 104 al.length)):=by
  intro va ta fa q1 q2 q3;have Ul:PO pf qD i ⟨pf,qD,i,va,ta,fa,params⟩:=⟨rfl,rfl,rfl,q1,q2,q3⟩;rcases hN with hN|hN|hN
  ·have g:=br4 (X:=X) (c:=c) hf hh oE aR i3 t1 hN dJ bH c.aS [] rfl _ code Ul [] [] rfl rfl ⟨0,0,[]⟩ false;rw[hN] at ao⊢;exact wr Y<|wn Y af<|wo Y (ax ao Y)<|wg 1 Y<|Wp.D8 Y Y Y<|Wp.D8 Y Y Y<|wo Y (au (xm _))<|wj g
  ·have g:=br3 (X:=X) (c:=c) hf hh oE aR i3 t1 hN dJ bH c.aS [] rfl _ code Ul [] [] rfl rfl ⟨0,0,[]⟩ ⟨0,0,[]⟩ false false;rw[hN] at ao⊢;exact wr Y<|wn Y af<|wo Y (ax ao Y)<|wg 1 Y<|Wp.SR Y Y Y<|Wp.D8 Y Y Y<|Wp.D8 Y Y Y<|wo Y (au (xm _))<|wj g
  ·have g:=br2 (X:=X) (c:=c) hf hh oE aR i3 t1 hN dJ bH c.aS [] rfl _ code Ul [] [] rfl rfl ⟨0,0,[]⟩ ⟨0,0,[]⟩ ⟨0,0,[]⟩ false false false;rw[hN] at ao⊢;exact wr Y<|wn Y af<|wo Y (ax ao Y)<|wg 1 Y<|Wp.SR Y Y Y<|Wp.SR Y Y Y<|Wp.D8 Y Y Y<|Wp.D8 Y Y Y<|wo Y (au (xm _))<|wj g
 have kW:∀(aa V:List Vr),c.vars=V++aa->∀(va ta fa:L5),va.length<=V.length->ta.length<=V.length->fa.length<=1000->Rn F X 79 2 [jD i,.sl (c.vars.map Vr.s),jD c.vars.length,jD V.length,.str pf.name,.sl (pf.flags.map Fg.d),.sl (pf.links.map Lk.d),.sl (pf.comps.map Cm.s),.sl (sT qD),.sl (strs va),.sl (strs ta),.sl (strs fa),.sl (strs params),.sl code,.str c.name,.sl (ca c.aS)] (CQ pf qD (aP 104 al.length)):=by
  intro aa
  induction aa with
  |nil=>
   intro V aI va ta fa q1 q2 q3;rw[xj] at aI;rw[<-aI] at q1 q2⊢;exact fin va ta fa MK MK q3
  |cons v aa ih=>
   intro V aI va ta fa q1 q2 q3;have aE:=bC aI;have Lj:=cz (f:=Vr.s) aI;have next:=ih (V++[v]) (by rw[aI,bA]);rw[xa] at next;have e1:V.length+[v].length=V.length+1:=rfl;rw[e1] at next;obtain⟨v1,v2,v3⟩:=v;have nA:=next (va++[v1]) ta fa Of MK q3;have nB:=next va (ta++[v1]) fa MK Of q3;rw[<-Nk] at nA nB;have la:=kT va;have lb:=kT ta;refine wr Y<|wy Y af<|wo Y (ax Lj rfl)<|wg 1 Y<|lR<|d_ Y ay ?_ ?_<;>intro h
   ·exact wg 2 Y<|wo Y oP<|wo Y oA<|wj nB
   ·exact wg 2 Y<|wo Y oP<|wo Y oA<|wj nA
 have Az:∀(aa V:List Fg),pf.flags=V++aa->∀(fa:L5),fa.length<=V.length->Rn F X 79 1 [jD i,.sl (pf.flags.map Fg.d),jD pf.flags.length,jD V.length,.str pf.name,.sl (pf.links.map Lk.d),.sl (pf.comps.map Cm.s),.sl (sT qD),.sl (strs fa),.sl (strs params),.sl code,.str c.name,.sl (c.vars.map Vr.s),.sl (ca c.aS)] (CQ pf qD (aP 104 al.length)):=by
  intro aa
  induction aa with
  |nil=>
   intro V aI fa q1;rw[xj] at aI;have co5:V.length=pf.flags.length:=by rw[aI]
   have g:=kW c.vars [] rfl [] [] fa NS NS MK;exact wr Y<|wn Y af<|wo Y (au (xm _))<|wj g
  |cons v aa ih=>
   intro V aI fa q1;have aE:=bC aI;have Lj:=cz (f:=Fg.d) aI;have next:=ih (V++[v]) (by rw[aI,bA]);rw[xa] at next;have e1:V.length+[v].length=V.length+1:=rfl;rw[e1] at next;obtain⟨v1,v2⟩:=v;have nA:=next (fa++[v1]) Of;rw[<-Nk] at nA;have la:=kT fa;cases v2
   ·exact wr Y<|wy Y af<|wo Y (ax Lj rfl)<|wg 2 Y<|gV<|wg 2 Y<|wo Y oP<|wo Y oA<|wj nA
   ·exact wr Y<|wy Y af<|wo Y (ax Lj rfl)<|wg 1 Y<|gV<|wg 2 Y<|wo Y oP<|wo Y oA<|wj nA
 have g:=Az pf.flags [] rfl [] NS;have bB5:(pf.comps.map Cm.s)[i]? =some (Cm.s c):=by rw[xx,hi];rfl
 obtain⟨c1,c2,c3⟩:=c;exact wr Y<|wo Y (ax bB5 rfl)<|wg 1 Y<|oe<|wo Y (au (xm _))<|wj g
def Ds(ar:Dw)(rows:Ca):Prop:=rows.length=ar.length/\∀(i:Nat) (al:Es),ar[i]? =some al->∃us fs:Ca,rows[i]? =some [D.sl (strs (aP 104 al.length)),D.sl us,D.sl fs]
def SN(ar:Dw)(o:Di):Prop:=∃rows,o=[.ptr [.sl rows] 0,iD 0]/\Ds ar rows
theorem av1(hX:mN X)(hI:wS X)(hf:gU ar f):Rn F X 84 0 f.s (SN ar):=by
 have k1:=Oc hX hf.ok;have k2:=am9 hX hI hf;have hn:=hf.n
 let H:=fun(l:Dw)=>l.map fun al=>aP 104 al.length
 have hH:∀l,(H l).length=l.length:=fun l=>xm _
 have hHl:∀l∈H ar,l.length<=1000:=fun l hl=>by
  obtain⟨al,ha,rfl⟩:=xJ.1 hl;have:=(hf.ji al ha).2.1;simp[aP];omega
 have c2:∀(k i:Nat),i+k=f.comps.length->∀(p:Cp) (code rows:Ca),p.f=f->p.hs=H ar->rows.length=i->(∀(j:Nat) (al:Es),j<i->ar[j]? =some al->∃us fs:Ca,rows[j]? =some [D.sl (strs (aP 104 al.length)),D.sl us,D.sl fs])->Rn F X 84 2 ([jD f.comps.length,jD i]++hY p code++[.sl rows]) (SN ar):=by
  intro k
  induction k with
  |zero=>
   intro i hi p code rows po aO ey bE;exact wr Y<|m6<|wn Y af<|wg 1 Y<|wt Y ⟨rows,rfl,MK,fun j al ha=>bE j al (by have:=iB ha;omega) ha⟩
  |succ k ih=>
   intro i hi p code rows po aO ey bE;have nT:i<f.comps.length:=MK
   have Er:i<ar.length:=MK
   have aR:ar[i]? =some ar[i]:=xc Er;have cc:=aI9 (X:=X) hf (xc nT) aR (hss:=H ar) (hH ar) hHl (by show(ar.map _)[i]? =_;rw[xx,aR];rfl) po aO (code:=code);have next:=ih (i+1) MK;refine wr Y<|m6<|wy Y af<|wg 1 Y<|wx Y cc fun|_,⟨us,fs,p2,bj,rfl,hq1,qF⟩=>⟨Y,?_⟩
   refine oa<|wg 2 Y<|wo Y oP<|wo Y oA<|b_ Y ?_;refine next p2 bj _ hq1 qF (by simp[ey]) (fun j al hj ha=> ?_);rcases Nat.lt_or_ge j i with bm|jv
   ·obtain⟨iJ,fs',h'⟩:=bE j al bm ha;exact⟨iJ,fs',by rw[xw MK];exact h'⟩
   ·obtain rfl:j=i:=MK
    rw[aR] at ha;cases ha;exact⟨us,fs,by rw[xq MK,ey,Nat.sub_self];rfl⟩
 have c1:∀(k i:Nat),i+k=f.comps.length->Rn F X 84 1 [.sl (f.comps.map Cm.s),jD f.comps.length,jD i,.str f.name,.sl (f.flags.map Fg.d),.sl (f.links.map Lk.d),.sl (sT (H (ar.take i)))] (SN ar):=by
  intro k
  induction k with
  |zero=>
   intro i hi;have e:ar.take i=ar:=List.take_of_length_le MK;rw[e];have g:=c2 f.comps.length 0 MK ⟨f,H ar,0,[],[],[],[]⟩ [] [] rfl rfl rfl (fun j al hj=>MK);exact wr Y<|wn Y af<|wo Y (au (xm _))<|wj g
  |succ k ih=>
   intro i hi;have nT:i<f.comps.length:=MK
   have Er:i<ar.length:=MK
   have aR:ar[i]? =some ar[i]:=xc Er;have oH:f.comps[i]? =some f.comps[i]:=xc nT;have cn:=ay0 (X:=X) (hf.comps i _ oH) aR (hf.ji _ (List.getElem_mem Er)).2.1;have ao:(f.comps.map Cm.s)[i]? =some (Cm.s f.comps[i]):=by rw[xx,oH];rfl
   have next:=ih (i+1) MK;have e:sT (H (ar.take (i+1)))=sT (H (ar.take i))++[[.sl (strs (aP 104 ar[i].length))]]:=by
    rw[List.take_add_one,aR];show sT (H (ar.take i++[ar[i]]))=_;simp only [H,sT,List.map_append,List.map_cons,List.map_nil]
   rw[e] at next;have aL:(sT (H (ar.take i))).length=i:=by simp[H,sT];omega
   generalize f.comps[i]=c at ao cn;obtain⟨n1,n2,n3⟩:=c;exact wr Y<|wy Y af<|wo Y (ax ao Y)<|wg 1 Y<|dF<|wl Y cn rfl<|wg 2 Y<|wo Y oP<|wo Y oA<|dW<|wj next
 have g:=c1 f.comps.length 0 MK;have k1:Rn F X 41 0 [.str f.name,.sl (f.flags.map Fg.d),.sl (f.links.map Lk.d),.sl (f.comps.map Cm.s)] (·=[iD 0]):=k1;have k2:Rn F X 58 0 [.str f.name,.sl (f.flags.map Fg.d),.sl (f.links.map Lk.d),.sl (f.comps.map Cm.s)] (·=[.str [],.str [],iD 0,iD 0]):=k2;show Rn F X 84 0 [.str f.name,.sl (f.flags.map Fg.d),.sl (f.links.map Lk.d),.sl (f.comps.map Cm.s)] _;exact wr Y<|wl Y k1 rfl<|wg 1 Y<|wl Y k2 rfl<|wg 1 Y<|wo Y (au (ch _ _))<|wj g
end
section
theorem CO{es:Nat}{zs:Di}(h:zs.length=es)(hn:n<=1000)(hb:bys<=1000):aF (.n0 es bys) (jD n::jD n::zs)=some (.sl (List.replicate n zs)):=by
 show(if _ then _ else none)=_;have:n*bys<=1000*1000:=Nat.mul_le_mul hn hb;rw[i_ ⟨h,xk _,by simp[mX];omega⟩]
theorem z8{rows:Ca}{i:Nat}{r ds:Di}(hr:rows[i]? =some r)(hl:r.length=ds.length):aF (.kj 0) (.sl rows::jD i::ds)=some (.sl (rows.set i ds)):=by
 show(rows[i]?).bind _=_;rw[hr];show(if 0+ds.length<=r.length then some (D.sl (rows.set i (r.take 0++ds++r.drop (0+ds.length)))) else none)=_;rw[i_ MK,List.drop_of_length_le MK];simp
def vD(l:List Hn):Di:=[D.sl (l.map Hn.s)]
theorem Ct{a z:Di}:(V++List.replicate (n+1) z).set V.length a=(V++[a])++List.replicate n z:=by
 rw[List.set_append_right _ _ (xk _),Nat.sub_self,List.replicate_succ,List.set_cons_zero];simp
theorem CC{z:Di}:(V++List.replicate (n+1) z)[V.length]? =some z:=by
 rw[xq (xk _),Nat.sub_self,List.replicate_succ];rfl
theorem Z7(hl:l.length<=1000)(h:∀a∈l,Rn F X 90 0 (Ex.s a) (·=Ex.s a)):Rn F X 85 0 [.sl (l.map (Ex.s))] (·=[.sl (l.map (Ex.s))]):=by
 have loop:∀(aa V:List Fl.Ex),l=V++aa->Rn F X 85 1 [.sl (V.map (Ex.s)++List.replicate aa.length [bD 0,.str [],iD 0,.sl []]),.sl (l.map (Ex.s)),jD l.length,jD V.length] (·=[.sl (l.map (Ex.s))]):=by
  intro aa
  induction aa with
  |nil=>
   intro V hp;rw[xj] at hp;subst hp;rw[show([]:List Fl.Ex).length=0 from Y,List.replicate_zero,xj];exact wr Y<|wn Y af<|wt Y Y
  |cons a aa ih=>
   intro V hp;have aE:=bC hp;have ao:=cz (f:=Ex.s) hp;have ha:=h a (by rw[hp];simp);have next:=ih (V++[a]) (by rw[hp,bA]);have jf:(V.map (Ex.s)).length=V.length:=xm _;have bk:aF (.kj 0) (.sl (V.map (Ex.s)++List.replicate (aa.length+1) [bD 0,.str [],iD 0,.sl []])::jD V.length::Ex.s a)=some (.sl ((V++[a]).map (Ex.s)++List.replicate aa.length [bD 0,.str [],iD 0,.sl []])):=by
    rw[<-jf,z8 CC (by cases a;rfl),Ct,List.map_append];rfl
   have qH:aF .iO [.sl (V.map (Ex.s)++List.replicate (aa.length+1) [bD 0,.str [],iD 0,.sl []]),jD V.length]=some (.bool (decide (V.length<l.length))):=nZ Of;rw[xa] at next;rw[show(a::aa).length=aa.length+1 from Y];obtain⟨a1,a2,a3,a4⟩:=a;exact wr Y<|wy Y af<|wo Y (ax ao Y)<|wg 1 Y<|w9<|wl Y ha rfl<|mw<|wy Y qH<|wo Y bk<|wo Y oA<|wj next
 have g:=loop l [] rfl;exact wr Y<|wo Y (au (xm _))<|wo Y (CO rfl hl MK)<|wo Y (au (xm _))<|wj g
theorem bq4{l:JH}(hl:l.length<=1000)(h:∀a∈l,Rn F X 91 0 (St.s a) (·=St.s a)):Rn F X 86 0 [.sl (l.map (St.s))] (·=[.sl (l.map (St.s))]):=by
 have loop:∀(aa V:JH),l=V++aa->Rn F X 86 1 [.sl (V.map (St.s)++List.replicate aa.length [bD 0,.str [],.str [],.sl [],.sl [],.sl []]),.sl (l.map (St.s)),jD l.length,jD V.length] (·=[.sl (l.map (St.s))]):=by
  intro aa
  induction aa with
  |nil=>
   intro V hp;rw[xj] at hp;subst hp;rw[show([]:JH).length=0 from Y,List.replicate_zero,xj];exact wr Y<|wn Y af<|wt Y Y
  |cons a aa ih=>
   intro V hp;have aE:=bC hp;have ao:=cz (f:=St.s) hp;have ha:=h a (by rw[hp];simp);have next:=ih (V++[a]) (by rw[hp,bA]);have jf:(V.map (St.s)).length=V.length:=xm _;have bk:aF (.kj 0) (.sl (V.map (St.s)++List.replicate (aa.length+1) [bD 0,.str [],.str [],.sl [],.sl [],.sl []])::jD V.length::St.s a)=some (.sl ((V++[a]).map (St.s)++List.replicate aa.length [bD 0,.str [],.str [],.sl [],.sl [],.sl []])):=by
    rw[<-jf,z8 CC (by cases a;rfl),Ct,List.map_append];rfl
   have qH:aF .iO [.sl (V.map (St.s)++List.replicate (aa.length+1) [bD 0,.str [],.str [],.sl [],.sl [],.sl []]),jD V.length]=some (.bool (decide (V.length<l.length))):=nZ Of;rw[xa] at next;rw[show(a::aa).length=aa.length+1 from Y];obtain⟨a1,a2,a3,a4,a5,a6⟩:=a;exact wr Y<|wy Y af<|wo Y (ax ao Y)<|wg 1 Y<|dF<|wl Y ha rfl<|gV<|wy Y qH<|wo Y bk<|wo Y oA<|wj next
 have g:=loop l [] rfl;exact wr Y<|wo Y (au (xm _))<|wo Y (CO rfl hl MK)<|wo Y (au (xm _))<|wj g
theorem bq5{l:List Hn}(hl:l.length<=1000)(h:∀a∈l,Rn F X 92 0 (Hn.s a) (·=Hn.s a)):Rn F X 87 0 [.sl (l.map (Hn.s))] (·=[.sl (l.map (Hn.s))]):=by
 have loop:∀(aa V:List Hn),l=V++aa->Rn F X 87 1 [.sl (V.map (Hn.s)++List.replicate aa.length [.str [],.sl [],.sl []]),.sl (l.map (Hn.s)),jD l.length,jD V.length] (·=[.sl (l.map (Hn.s))]):=by
  intro aa
  induction aa with
  |nil=>
   intro V hp;rw[xj] at hp;subst hp;rw[show([]:List Hn).length=0 from Y,List.replicate_zero,xj];exact wr Y<|wn Y af<|wt Y Y
  |cons a aa ih=>
   intro V hp;have aE:=bC hp;have ao:=cz (f:=Hn.s) hp;have ha:=h a (by rw[hp];simp);have next:=ih (V++[a]) (by rw[hp,bA]);have jf:(V.map (Hn.s)).length=V.length:=xm _;have bk:aF (.kj 0) (.sl (V.map (Hn.s)++List.replicate (aa.length+1) [.str [],.sl [],.sl []])::jD V.length::Hn.s a)=some (.sl ((V++[a]).map (Hn.s)++List.replicate aa.length [.str [],.sl [],.sl []])):=by
    rw[<-jf,z8 CC (by cases a;rfl),Ct,List.map_append];rfl
   have qH:aF .iO [.sl (V.map (Hn.s)++List.replicate (aa.length+1) [.str [],.sl [],.sl []]),jD V.length]=some (.bool (decide (V.length<l.length))):=nZ Of;rw[xa] at next;rw[show(a::aa).length=aa.length+1 from Y];obtain⟨a1,a2,a3⟩:=a;exact wr Y<|wy Y af<|wo Y (ax ao Y)<|wg 1 Y<|w8<|wl Y ha rfl<|dF<|wy Y qH<|wo Y bk<|wo Y oA<|wj next
 have g:=loop l [] rfl;exact wr Y<|wo Y (au (xm _))<|wo Y (CO rfl hl MK)<|wo Y (au (xm _))<|wj g
theorem bq3{l:Mm}(hl:l.length<=1000)(h:∀a∈l,Rn F X 93 0 (vD a) (·=vD a)):Rn F X 88 0 [.sl (l.map (vD))] (·=[.sl (l.map (vD))]):=by
 have loop:∀(aa V:Mm),l=V++aa->Rn F X 88 1 [.sl (V.map (vD)++List.replicate aa.length [.sl []]),.sl (l.map (vD)),jD l.length,jD V.length] (·=[.sl (l.map (vD))]):=by
  intro aa
  induction aa with
  |nil=>
   intro V hp;rw[xj] at hp;subst hp;rw[show([]:Mm).length=0 from Y,List.replicate_zero,xj];exact wr Y<|wn Y af<|wt Y Y
  |cons a aa ih=>
   intro V hp;have aE:=bC hp;have ao:=cz (f:=vD) hp;have ha:=h a (by rw[hp];simp);have next:=ih (V++[a]) (by rw[hp,bA]);have jf:(V.map (vD)).length=V.length:=xm _;have bk:aF (.kj 0) (.sl (V.map (vD)++List.replicate (aa.length+1) [.sl []])::jD V.length::vD a)=some (.sl ((V++[a]).map (vD)++List.replicate aa.length [.sl []])):=by
    rw[<-jf,z8 CC (show([D.sl []]:Di).length=(vD a).length from Y),Ct,List.map_append];rfl
   have qH:aF .iO [.sl (V.map (vD)++List.replicate (aa.length+1) [.sl []]),jD V.length]=some (.bool (decide (V.length<l.length))):=nZ Of;rw[xa] at next;rw[show(a::aa).length=aa.length+1 from Y]
   skip
   exact wr Y<|wy Y af<|wo Y (ax ao Y)<|wg 1 Y<|w6<|wl Y ha rfl<|w7<|wy Y qH<|wo Y bk<|wo Y oA<|wj next
 have g:=loop l [] rfl;exact wr Y<|wo Y (au (xm _))<|wo Y (CO rfl hl MK)<|wo Y (au (xm _))<|wj g
theorem bq6{l:List Cm}(hl:l.length<=1000)(h:∀a∈l,Rn F X 94 0 (Cm.s a) (·=Cm.s a)):Rn F X 89 0 [.sl (l.map (Cm.s))] (·=[.sl (l.map (Cm.s))]):=by
 have loop:∀(aa V:List Cm),l=V++aa->Rn F X 89 1 [.sl (V.map (Cm.s)++List.replicate aa.length [.str [],.sl [],.sl []]),.sl (l.map (Cm.s)),jD l.length,jD V.length] (·=[.sl (l.map (Cm.s))]):=by
  intro aa
  induction aa with
  |nil=>
   intro V hp;rw[xj] at hp;subst hp;rw[show([]:List Cm).length=0 from Y,List.replicate_zero,xj];exact wr Y<|wn Y af<|wt Y Y
  |cons a aa ih=>
   intro V hp;have aE:=bC hp;have ao:=cz (f:=Cm.s) hp;have ha:=h a (by rw[hp];simp);have next:=ih (V++[a]) (by rw[hp,bA]);have jf:(V.map (Cm.s)).length=V.length:=xm _;have bk:aF (.kj 0) (.sl (V.map (Cm.s)++List.replicate (aa.length+1) [.str [],.sl [],.sl []])::jD V.length::Cm.s a)=some (.sl ((V++[a]).map (Cm.s)++List.replicate aa.length [.str [],.sl [],.sl []])):=by
    rw[<-jf,z8 CC (by cases a;rfl),Ct,List.map_append];rfl
   have qH:aF .iO [.sl (V.map (Cm.s)++List.replicate (aa.length+1) [.str [],.sl [],.sl []]),jD V.length]=some (.bool (decide (V.length<l.length))):=nZ Of;rw[xa] at next;rw[show(a::aa).length=aa.length+1 from Y];obtain⟨a1,a2,a3⟩:=a;exact wr Y<|wy Y af<|wo Y (ax ao Y)<|wg 1 Y<|w8<|wl Y ha rfl<|dF<|wy Y qH<|wo Y bk<|wo Y oA<|wj next
 have g:=loop l [] rfl;exact wr Y<|wo Y (au (xm _))<|wo Y (CO rfl hl MK)<|wo Y (au (xm _))<|wj g
theorem br0(h:jo gO e):Rn F X 90 0 (Ex.s e) (·=Ex.s e):=by
 induction h with
 | @mk op name n args hn ha ih=>
  obtain⟨h1,h2,h3,h4,h5⟩:=hn.get;have dY:args.length<=2:=by rw[h3];unfold jr;split<;>(try split)<;>omega
  have c:=Z7 (X:=X) (l:=args) MK ih;rw[<-CJ] at c;exact wr Y<|wl Y c rfl<|wt Y Y
theorem bf1(hl:l.length<=1000)(h:∀e∈l,jo gO e):Rn F X 85 0 [.sl (Ex.ss l)] (·=[.sl (Ex.ss l)]):=by
 rw[CJ];exact Z7 hl (fun a ha=>br0 (h a ha))
theorem bf0{l:JH}(hl:l.length<=12)(h:∀s∈l,dL jy s):Rn F X 86 0 [.sl (St.ss l)] (·=[.sl (St.ss l)]):=by
 refine dL.list (P:=fun l=>Rn F X 86 0 [.sl (St.ss l)] (·=[.sl (St.ss l)])) ?_ hl h;intro l hl h;rw[Fu];refine bq4 MK (fun s hs=> ?_);obtain⟨ha,hs⟩:=h s hs;obtain⟨kind,name,cf,bf,th,el⟩:=s;obtain⟨dA,cJ⟩:=hs;have fI:bf.length<=3:=by have:=ha.ln;omega
 have c:=bf1 (X:=X) (l:=bf) MK (fun e he=>(ha.ex e he).1);exact wr Y<|wl Y c rfl<|wl Y dA rfl<|wl Y cJ rfl<|wt Y Y
theorem LA{es:Nat}{q:Ca}(hq:∀row∈q,row.length=es/\row.all D.cell=true)(hn:q.length<=1000)(hb:bys<=1000):aF (.app es bys) [.sl [],.sl q]=some (.sl q):=by
 have:q.length*bys<=1000*1000:=Nat.mul_le_mul hn hb;have:=yg (rows:=[]) (bys:=bys) hq Of Of;simpa using this
theorem bq9{h:Hn}(hh:B6 h):Rn F X 92 0 h.s (·=h.s):=by
 have c:=bf0 (X:=X) hh.len hh.body;have hp:=hh.params.1;obtain⟨h1,h2,h3⟩:=h;have ha:=LA (bys:=16) (IE h2) (by rw[kT];simp only at hp;omega) MK;exact wr Y<|wg 1 Y<|wo Y ha<|wl Y c rfl<|wt Y Y
theorem br1(hc:Io c):Rn F X 94 0 c.s (·=c.s):=by
 have cO:∀l∈c.aS,Rn F X 93 0 (vD l) (·=vD l):=by
  intro l hl;have aL:=hc.hs l hl;have cH:=bq5 (X:=X) (l:=l) MK (fun h hh=>bq9 (aL.2 h hh));show Rn F X 93 0 [D.sl (l.map Hn.s)] (·=[D.sl (l.map Hn.s)]);exact wr Y<|wl Y cH rfl<|wt Y Y
 have cV:Rn F X 88 0 [.sl (ca c.aS)] (·=[.sl (ca c.aS)]):=bq3 (by have:=hc.vs.2;omega) cO;have hv:=hc.vars.1;obtain⟨c1,c2,c3⟩:=c;have ha:=LA (bys:=32) (es:=3) (q:=c2.map Vr.s) (fun row h=>by obtain⟨v,_,rfl⟩:=xJ.1 h;exact⟨rfl,rfl⟩) (by rw[xm];simp only at hv;omega) MK;exact wr Y<|wg 1 Y<|wo Y ha<|wl Y cV rfl<|wt Y Y
theorem XP{f:dj}(hf:tw f):Rn F X 95 0 f.s (·=f.s):=by
 have cC:=bq6 (X:=X) (l:=f.comps) (by have:=hf.comps.2.1;omega) (fun c hc=>br1 (hf.comps.2.2 c hc));have h1:=hf.flags.1;have h2:=hf.links.1;obtain⟨f1,f2,f3,f4⟩:=f;have a1:=LA (bys:=24) (es:=2) (q:=f2.map Fg.d) (fun row h=>by obtain⟨v,_,rfl⟩:=xJ.1 h;exact⟨rfl,rfl⟩) (by rw[xm];simp only at h1;omega) MK;have a2:=LA (bys:=40) (es:=3) (q:=f3.map Lk.d) (fun row h=>by obtain⟨v,_,rfl⟩:=xJ.1 h;exact⟨rfl,rfl⟩) (by rw[xm];simp only at h2;omega) MK;exact wr Y<|wg 1 Y<|wo Y a1<|wg 1 Y<|wo Y a2<|w8<|wl Y cC rfl<|wt Y Y
end
structure wQ (X:Bv):Prop where
 int:∀n,n<=8->∃s:aq,s.length<=3/\Rn F X 112 0 [iD n,iD 10] (·=[.str s])
 join:∀(l:L5) (m:Nat),l.length<=3->(∀s∈l,s.length<=m)->m<=100000->∃s:aq,s.length<=3*m+4/\Rn F X 113 0 [.sl (strs l),.str [44,32]] (·=[.str s])
section
theorem aE2{op:Nat}(h1:1<=op)(h2:op<=23):(o5 op).length<=5:=by
 refine XT h1 h2 (P:=fun op=>(o5 op).length<=5) ?_;decide
theorem aO2(op:Nat):GS op<=7:=by
 unfold GS;split<;>(try split)<;>(try split)<;>(try split)<;>(try split)<;>(try split)<;>omega
theorem vM{α:Type}:∀{l:List α},l.length=1->∃a,l=[a]
 |[a],_=>⟨a,rfl⟩
def B5(m:Nat)(o:Di):Prop:=∃s:aq,o=[.str s]/\s.length<=m
theorem Iv(hn:gO e){k:Int}(hm:m<=100000)(ht:Rn F X 99 0 (Ex.s e) (B5 m)):Rn F X 98 0 (Ex.s e++[.int .i64 k]) (B5 (m+2)):=by
 obtain⟨op,name,n,args⟩:=e;obtain⟨h1,h2,h3,h4,h5⟩:=hn.get;have ek:=zJ (X:=X) h1 h2;by_cases q:5<=op/\op<=8
 ·rw[show vJ op=true from u_ q] at ek;refine wr Y<|wl Y ek rfl<|d_ Y af ?_ ?_<;>intro h
  ·refine wg 1 Y<|wx Y ht fun|_,⟨s,rfl,hs⟩=>⟨Y,?_⟩
   exact wo Y (dH NY)<|lS<|wo Y (dH NY)<|mw<|wt Y ⟨_,rfl,NY⟩
  ·refine wg 1 Y<|wx Y ht fun|_,⟨s,rfl,hs⟩=>⟨Y,?_⟩
   exact wt Y ⟨_,rfl,NY⟩
 ·rw[show vJ op=false from f_ q] at ek;refine wr Y<|wl Y ek rfl<|d_ Y af ?_ ?_<;>intro h
  ·refine wg 1 Y<|wx Y ht fun|_,⟨s,rfl,hs⟩=>⟨Y,?_⟩
   exact wo Y (dH NY)<|lS<|wo Y (dH NY)<|mw<|wt Y ⟨_,rfl,NY⟩
  ·refine wg 1 Y<|wx Y ht fun|_,⟨s,rfl,hs⟩=>⟨Y,?_⟩
   exact wt Y ⟨_,rfl,NY⟩
theorem aL3(hP:wQ X)(h:jo gO e):20*e.sz<=99000->Rn F X 99 0 (Ex.s e) (B5 (20*e.sz)):=by
 induction h with
 | @mk op name n args hn ha ih=>
  intro hl;obtain⟨h1,h2,h3,h4,h5⟩:=hn.get;have ek:=zJ (X:=X) h1 h2;have wk:=aE2 h1 h2;have Tq:=aO2 op;have lj:name.length<=6:=by
   rcases h5 with⟨_,_,h⟩|⟨_,rfl⟩
   ·exact qY h
   ·exact xL _
  have jh:∀a∈args,gO a:=fun a h=>by
   have:=ha a h;cases this;assumption
  simp only [Ex.sz] at hl⊢;have hc:op=1\/op=2\/op=3\/op=4\/op=5\/op=6\/op=7\/op=8\/op=9\/op=10\/11<=op:=MK
  rcases hc with rfl|rfl|rfl|rfl|rfl|rfl|rfl|rfl|rfl|rfl|hc
  ·obtain⟨s9,y5,bD7⟩:=hP.int n MK;have ek:Rn F X 18 0 [bD 1] (·=[iD 0,.bool false,iD 7,.str (o5 1),.bool true]):=ek;exact wr Y<|wl Y ek rfl<|wg 1 Y<|wl Y bD7 rfl<|wt Y ⟨_,rfl,NY⟩
  ·have ek:Rn F X 18 0 [bD 2] (·=[iD 0,.bool false,iD 7,.str (o5 2),.bool true]):=ek;exact wr Y<|wl Y ek rfl<|wg 8 Y<|wt Y ⟨_,rfl,NY⟩
  ·have ek:Rn F X 18 0 [bD 3] (·=[iD 0,.bool false,iD 7,.str (o5 3),.bool true]):=ek;exact wr Y<|wl Y ek rfl<|wg 8 Y<|wt Y ⟨_,rfl,NY⟩
  ·have ek:Rn F X 18 0 [bD 4] (·=[iD 0,.bool false,iD 7,.str (o5 4),.bool true]):=ek;exact wr Y<|wl Y ek rfl<|wg 8 Y<|wt Y ⟨_,rfl,NY⟩
  ·have ek:Rn F X 18 0 [bD 5] (·=[iD 0,.bool true,iD 7,.str (o5 5),.bool true]):=ek;exact wr Y<|wl Y ek rfl<|wg 2 Y<|wo Y (dH NY)<|wt Y ⟨_,rfl,NY⟩
  ·obtain⟨a,rfl⟩:∃a,args=[a]:=vM (by rw[h3];rfl);have ek:Rn F X 18 0 [bD 6] (·=[iD 1,.bool true,iD 7,.str (o5 6),.bool true]):=ek;simp only [Ex.fF] at hl⊢;have t1:=ih a NS MK;obtain⟨o1,n1,i1,a1⟩:=a;refine wr Y<|wl Y ek rfl<|wg 4 Y<|wo Y (dH NY)<|wo Y (dH NY)<|wg 1 Y<|lS<|wg 1 Y<|oe<|wg 1 Y<|wx Y t1 fun|_,⟨s,rfl,hs⟩=>⟨Y,?_⟩
   exact wo Y (dH NY)<|wo Y (dH NY)<|wt Y ⟨_,rfl,NY⟩
  ·obtain⟨a,rfl⟩:∃a,args=[a]:=vM (by rw[h3];rfl);have ek:Rn F X 18 0 [bD 7] (·=[iD 1,.bool true,iD 7,.str (o5 7),.bool true]):=ek;simp only [Ex.fF] at hl⊢;have t1:=ih a NS MK;obtain⟨o1,n1,i1,a1⟩:=a;refine wr Y<|wl Y ek rfl<|wg 5 Y<|wo Y (dH NY)<|wo Y (dH NY)<|wg 1 Y<|lS<|wg 1 Y<|oe<|wg 1 Y<|wx Y t1 fun|_,⟨s,rfl,hs⟩=>⟨Y,?_⟩
   exact wo Y (dH NY)<|wo Y (dH NY)<|wt Y ⟨_,rfl,NY⟩
  ·have ek:Rn F X 18 0 [bD 8] (·=[iD 0,.bool true,iD 7,.str (o5 8),.bool true]):=ek;exact wr Y<|wl Y ek rfl<|wg 3 Y<|wo Y (dH NY)<|wt Y ⟨_,rfl,NY⟩
  ·obtain⟨a,rfl⟩:∃a,args=[a]:=vM (by rw[h3];rfl);have ek:Rn F X 18 0 [bD 9] (·=[iD 1,.bool false,iD 6,.str (o5 9),.bool true]):=ek;simp only [Ex.fF] at hl⊢;have t1:=fun k=>Iv (X:=X) (k:=k) (jh a NS) MK (ih a NS MK)
   obtain⟨o1,n1,i1,a1⟩:=a;refine wr Y<|wl Y ek rfl<|wg 8 Y<|m6<|wg 1 Y<|wx Y (t1 _) fun|_,⟨s,rfl,hs⟩=>⟨Y,?_⟩
   exact wo Y (dH NY)<|wt Y ⟨_,rfl,NY⟩
  ·obtain⟨a,rfl⟩:∃a,args=[a]:=vM (by rw[h3];rfl);have ek:Rn F X 18 0 [bD 10] (·=[iD 1,.bool false,iD 6,.str (o5 10),.bool true]):=ek;simp only [Ex.fF] at hl⊢;have t1:=fun k=>Iv (X:=X) (k:=k) (jh a NS) MK (ih a NS MK)
   obtain⟨o1,n1,i1,a1⟩:=a;refine wr Y<|wl Y ek rfl<|wg 9 Y<|m6<|wg 1 Y<|wx Y (t1 _) fun|_,⟨s,rfl,hs⟩=>⟨Y,?_⟩
   exact wo Y (dH NY)<|wt Y ⟨_,rfl,NY⟩
  ·obtain⟨a,b,rfl⟩:∃a b,args=[a,b]:=K3 (by rw[h3];unfold jr;rw[j_ MK,i_ MK]);have dY:jr op=2:=h3.symm;rw[dY,show vJ op=false from f_ MK] at ek;simp only [Ex.fF] at hl⊢;have t1:=fun k=>Iv (X:=X) (k:=k) (jh a NS) MK (ih a NS MK)
   have t2:=fun k=>Iv (X:=X) (k:=k) (jh b NS) MK (ih b NS MK)
   obtain⟨o1,n1,i1,a1⟩:=a;obtain⟨o2,n2,i2,a2⟩:=b;generalize o5 op=tx at*;generalize GS op=lv at*;refine wr Y<|wl Y ek rfl<|wn Y ay<|wn Y ay<|wn Y ay<|wn Y ay<|wn Y ay<|wn Y ay<|wn Y ay<|wn Y ay<|d_ Y ay ?_ ?_<;>intro h
   ·refine wo Y oA<|wg 2 Y<|dW<|wg 2 Y<|lR<|wo Y oA<|wg 1 Y<|wx Y (t1 _) fun|_,⟨s1,rfl,dA⟩=>⟨Y,?_⟩
    refine wo Y (dH NY)<|wg 1 Y<|wx Y (t2 _) fun|_,⟨s2,rfl,cJ⟩=>⟨Y,?_⟩
    exact vZ<|wo Y (dH NY)<|wt Y ⟨_,rfl,NY⟩
   ·refine wg 2 Y<|m6<|wg 2 Y<|gI<|wo Y oA<|wg 1 Y<|wx Y (t1 _) fun|_,⟨s1,rfl,dA⟩=>⟨Y,?_⟩
    refine wo Y (dH NY)<|wg 1 Y<|wx Y (t2 _) fun|_,⟨s2,rfl,cJ⟩=>⟨Y,?_⟩
    exact pP<|wo Y (dH NY)<|wt Y ⟨_,rfl,NY⟩
end
section
def cW:L5->Nat|[]=>0|s::l=>s.length+cW l
theorem Vc:∀(l:L5) (s:aq),cW (l++[s])=cW l+s.length
 |[],s=>by simp[cW]
 |a::l,s=>by simp only [c_,cW,Vc l s];omega
theorem VP:∀(l m:L5),cW (l++m)=cW l+cW m
 |[],m=>by simp[cW]
 |a::l,m=>by simp only [c_,cW,VP l m];omega
theorem uZ{s:EH}(h:t.length+s.length<=1000000000000):aF (.app 1 1) [.sl (bG t),.str s]=some (.sl (bG (t++s))):=by
 show(if mX ((bG t).length+(s.map fun b=>[D.int .u8 (b.toNat:Nat)]).length) 1 then some (D.sl (bG t++s.map fun b=>[D.int .u8 (b.toNat:Nat)])) else none)=_;rw[i_ (by simp[mX,rF];omega)];simp[bG]
theorem Xc(h:t.length+1<=1000000000000):aF (.app 1 1) [.sl (bG t),.sl [[.int .u8 10]]]=some (.sl (bG (t++[10]))):=by
 have e:=gb (es:=1) (bys:=1) (row:=[D.int .u8 10]) (rows:=bG t) rfl rfl (by rw[rF];omega) (by rw[rF];omega);rw[e];simp[bG]
def WQ(t:EH)(ind m:Nat)(o:Di):Prop:=∃t':EH,o=[.sl (bG t'),jD ind]/\t.length<=t'.length/\t'.length<=t.length+m
theorem IV{ps:L5}(hp:ps.length<=20)(hi:ind<=60)(hl:t.length+2*ind+cW ps+1<=1000000000000):Rn F X 100 0 [.sl (bG t),jD ind,.sl (strs ps)] (WQ t ind (2*ind+cW ps+1)):=by
 have p2:∀(aa V:L5),ps=V++aa->∀t':EH,t.length<=t'.length->t'.length<=t.length+2*ind+cW V->Rn F X 100 2 [.sl (strs ps),jD ps.length,jD V.length,.sl (bG t'),jD ind] (WQ t ind (2*ind+cW ps+1)):=by
  intro aa
  induction aa with
  |nil=>
   intro V aI t' h0 h1;rw[xj] at aI;subst aI;exact wr Y<|wn Y af<|wg 2 Y<|wo Y (Xc MK)<|wt Y ⟨_,rfl,by simp;omega,Of⟩
  |cons a aa ih=>
   intro V aI t' h0 h1;have aE:=bC aI;have ao:(strs ps)[V.length]? =some [.str a]:=cz (f:=fun p:aq=>[D.str p]) aI;have hs:cW ps=cW V+(a.length+cW aa):=by rw[aI,VP];rfl
   have next:=ih (V++[a]) (by rw[aI,bA]) (t'++a) Of (by rw[Vc];simp;omega);rw[xa] at next;exact wr Y<|wy Y af<|wo Y (ax ao Y)<|wg 2 Y<|wo Y (uZ MK)<|wg 1 Y<|w9<|wo Y oA<|wj next
 have p1:∀(f k:Nat),k+f=ind->∀t':EH,t.length<=t'.length->t'.length<=t.length+2*k->Rn F X 100 1 [.sl (strs ps),jD ind,jD k,.sl (bG t')] (WQ t ind (2*ind+cW ps+1)):=by
  intro f
  induction f with
  |zero=>
   intro k hk t' h0 h1;obtain rfl:k=ind:=MK
   exact wr Y<|wn Y af<|wo Y (au (kT _))<|b_ Y (p2 ps [] rfl t' h0 (by simp[cW];omega))
  |succ f ih=>
   intro k hk t' h0 h1;have next:=ih (k+1) MK (t'++[32,32]) Of Of;exact wr Y<|wy Y af<|wg 1 Y<|wo Y (uZ Of)<|wo Y oA<|wj next
 have g:=p1 ind 0 MK t MK MK;exact wr Y<|wj g
abbrev BW(X:Bv)(l:JH):Prop:=∀(t:EH) (ind:Nat),ind+St.ns l<=40->t.length+20000*St.ns l<=100000000000->Rn F X 103 0 [.sl (bG t),jD ind,.sl (St.ss l)] (WQ t ind (20000*St.ns l))
theorem XL{l:JH}(hb:BW X l){s:aq}(hs:s.length<=3000)(hi:ind+St.ns l<=40)(hl:t.length+20000*St.ns l+10000<=100000000000):Rn F X 101 0 [.sl (bG t),jD ind,.str s,.sl (St.ss l)] (WQ t ind (20000*St.ns l+10000)):=by
 have lm:=mS l;rcases xI l.length with h0|h0
 ·have c:=IV (X:=X) (ps:=[s,[59]]) (t:=t) (ind:=ind) NS MK (by simp[cW];omega);refine wr Y<|wo Y (au (n:=l.length) (l9 _))<|wy Y ay<|wg 2 Y ?_
  (refine wx Y c fun|_,⟨t1,rfl,h1,h2⟩=>⟨Y,?_⟩;simp only [cW,xi,xd] at h2)
  exact wt Y ⟨t1,rfl,h1,MK⟩
 ·have c:=IV (X:=X) (ps:=[s,[32,101,108,115,101,32,123]]) (t:=t) (ind:=ind) NS MK (by simp[cW];omega);have c2:=fun(t1:EH) (h:t1.length+20000*St.ns l<=100000000000)=>hb t1 ind hi h
  have c3:=fun(t1:EH) (h:t1.length<=100000000000)=>IV (X:=X) (ps:=[[125]]) (t:=t1) (ind:=ind) NS MK (by simp[cW];omega)
  refine wr Y<|wo Y (au (n:=l.length) (l9 _))<|wn Y ay<|wg 2 Y ?_
  (have _:=c2;refine wx Y c ?_;rintro _ ⟨t1,rfl,h1,h2⟩;refine⟨rfl,?_⟩;simp only [cW,xi,xd] at h2)
  refine wg 1 Y<|wx Y (c2 t1 MK) fun|_,⟨t2,rfl,h3,h4⟩=>⟨Y,?_⟩
  refine nR<|wg 2 Y ?_
  (refine wx Y (c3 t2 MK) fun|_,⟨t3,rfl,h5,h6⟩=>⟨Y,?_⟩;simp only [cW,xi,xd] at h6)
  exact wt Y ⟨t3,rfl,MK,MK⟩
end
section
theorem Ko{ps:L5}(hp:ps.length<=20)(hs:cW ps<=6000)(hi:ind<=60)(ht:t.length<=200000000000):Rn F X 100 0 [.sl (bG t),jD ind,.sl (strs ps)] (WQ t ind 6200):=
 (IV (X:=X) hp hi MK).mono fun _ ⟨t',e,h1,h2⟩=>⟨t',e,h1,MK⟩
theorem wq{t':EH}(h1:t.length<=t'.length)(h2:t'.length<=t.length+m):WQ t ind m [.sl (bG t'),jD ind]:=⟨t',rfl,h1,h2⟩
theorem aA7(hP:wQ X){cf:aq}{th el:JH}(hs:Dr kind name cf bf th el)(bX:BW X th)(bP:BW X el)(hi:ind<=41)(sW:ind+St.ns th<=40)(gw:ind+St.ns el<=40)(hl:t.length+20000*(1+St.ns th+St.ns el)<=100000000000)
 (h7:kind=7->∀es:L5,es.length=bf.length->(∀e∈es,e.length<=1260)->Rn F X 102 1 [.sl (strs es),.sl (Ex.ss bf),jD bf.length,jD bf.length,.sl (bG t),jD ind,bD kind,.str name,.str cf,.sl (St.ss th),.sl (St.ss el)] (WQ t ind (20000*(1+St.ns th+St.ns el)))):
 Rn F X 102 0 ([.sl (bG t),jD ind]++St.s ⟨kind,name,cf,bf,th,el⟩) (WQ t ind (20000*(1+St.ns th+St.ns el))):=by
 have fI:bf.length<=3:=by have:=hs.ln;omega
 have lj:name.length<=6:=by
  rcases hs.nm with⟨_,h⟩|⟨_,rfl⟩
  ·exact qY h
  ·exact xL _
 have oE:cf.length<=6:=by
  rcases hs.hn with⟨_,h⟩|⟨_,rfl⟩
  ·exact qY h
  ·exact xL _
 have k1:=hs.k1;have uw:=hs.uw;have Ts:=hs.ln;have lm:=mS el;have fin:∀es:L5,es.length=bf.length->(∀e∈es,e.length<=1260)->Rn F X 102 1 [.sl (strs es),.sl (Ex.ss bf),jD bf.length,jD bf.length,.sl (bG t),jD ind,bD kind,.str name,.str cf,.sl (St.ss th),.sl (St.ss el)] (WQ t ind (20000*(1+St.ns th+St.ns el))):=by
  intro es dU he;have L:=fun(ps:L5) (hp:ps.length<=20) (hs:cW ps<=6000) (t1:EH) (ht:t1.length<=200000000000)=>Ko (X:=X) (ps:=ps) hp hs (ind:=ind) MK ht
  have gY:kind=1\/kind=2\/kind=3\/kind=4\/kind=5\/kind=6\/kind=7\/kind=8\/kind=9\/kind=10:=MK
  rcases gY with rfl|rfl|rfl|rfl|rfl|rfl|rfl|rfl|rfl|rfl
  ·obtain⟨a,rfl⟩:=vM (show es.length=1 by omega);have ha:=he a NS;refine wr Y<|wn Y af<|wg 5 Y<|wx Y (L [name,[32,61,32],a,[59]] NS (by simp only [cW,xi,xd] at*;omega) t MK) fun|_,⟨t1,rfl,yJ,yI⟩=>⟨Y,?_⟩
   exact wt Y (wq MK MK)
  ·obtain⟨a,b,rfl⟩:=K3 (show es.length=2 by omega);have ha:=he a NS;have hb:=he b NS;refine wr Y<|wn Y af<|wg 8 Y<|wx Y (L [name,[91],a,[93,32,61,32],b,[59]] NS (by simp only [cW,xi,xd] at*;omega) t MK) fun|_,⟨t1,rfl,yJ,yI⟩=>⟨Y,?_⟩
   exact oe<|wt Y (wq MK MK)
  ·obtain⟨a,rfl⟩:=vM (show es.length=1 by omega);have ha:=he a NS;refine wr Y<|wn Y af<|wg 7 Y<|wx Y (L [[100,101,108,101,116,101,32],name,[91],a,[93,59]] NS (by simp only [cW,xi,xd] at*;omega) t MK) fun|_,⟨t1,rfl,yJ,yI⟩=>⟨Y,?_⟩
   exact wt Y (wq MK MK)
  ·obtain⟨a,rfl⟩:=vM (show es.length=1 by omega);have ha:=he a NS;rcases xI el.length with h0|h0
   ·refine wr Y<|wn Y af<|wg 8 Y<|wx Y (L [[105,102,32],a,[32,123]] NS (by simp only [cW,xi,xd] at*;omega) t MK) fun|_,⟨t1,rfl,yJ,yI⟩=>⟨Y,?_⟩
    refine wg 1 Y<|wx Y (bX t1 ind MK MK) fun|_,⟨t2,rfl,ad3,ad2⟩=>⟨Y,?_⟩
    refine gV<|wo Y (au (l9 el))<|wn Y bZ<|wg 2 Y<|wx Y (L [[125]] NS (by simp only [cW,xi,xd] at*;omega) t2 MK) fun|_,⟨t5,rfl,ad1,ad0⟩=>⟨Y,?_⟩
    exact wt Y (wq MK MK)
   ·refine wr Y<|wn Y af<|wg 8 Y<|wx Y (L [[105,102,32],a,[32,123]] NS (by simp only [cW,xi,xd] at*;omega) t MK) fun|_,⟨t1,rfl,yJ,yI⟩=>⟨Y,?_⟩
    refine wg 1 Y<|wx Y (bX t1 ind MK MK) fun|_,⟨t2,rfl,ad3,ad2⟩=>⟨Y,?_⟩
    refine gV<|wo Y (au (l9 el))<|wy Y bZ<|wg 2 Y<|wx Y (L [[125,32,101,108,115,101,32,123]] NS (by simp only [cW,xi,xd] at*;omega) t2 MK) fun|_,⟨t3,rfl,co0,cn9⟩=>⟨Y,?_⟩
    refine wg 1 Y<|wx Y (bP t3 ind MK MK) fun|_,⟨t4,rfl,cn8,cn7⟩=>⟨Y,?_⟩
    refine pP<|wg 2 Y<|wx Y (L [[125]] NS (by simp only [cW,xi,xd] at*;omega) t4 MK) fun|_,⟨t5,rfl,ad1,ad0⟩=>⟨Y,?_⟩
    exact wt Y (wq MK MK)
  ·obtain⟨a,rfl⟩:=vM (show es.length=1 by omega);have ha:=he a NS;refine wr Y<|wn Y af<|wg 9 Y<|wx Y (L [[119,104,105,108,101,32],a,[32,123]] NS (by simp only [cW,xi,xd] at*;omega) t MK) fun|_,⟨t1,rfl,yJ,yI⟩=>⟨Y,?_⟩
   refine wg 1 Y<|wx Y (bX t1 ind MK MK) fun|_,⟨t2,rfl,ad3,ad2⟩=>⟨Y,?_⟩
   refine gV<|wg 2 Y<|wx Y (L [[125]] NS (by simp only [cW,xi,xd] at*;omega) t2 MK) fun|_,⟨t5,rfl,ad1,ad0⟩=>⟨Y,?_⟩
   exact wt Y (wq MK MK)
  ·obtain⟨s9,y5,cj⟩:=hP.join es 1260 MK he MK;refine wr Y<|wn Y af<|wg 6 Y<|wl Y cj rfl<|wg 2 Y<|wx Y (L [[115,101,110,100,32],name,[46],cf,[40],s9,[41,59]] NS (by simp only [cW,xi,xd] at*;omega) t MK) fun|_,⟨t1,rfl,yJ,yI⟩=>⟨Y,?_⟩
   exact wt Y (wq MK MK)
  ·exact h7 rfl es dU he
  ·obtain⟨a,b,rfl⟩:=K3 (show es.length=2 by omega);have ha:=he a NS;have hb:=he b NS;refine wr Y<|wn Y af<|wg 10 Y<|wo Y (dH Pe)<|wo Y (dH Pe)<|wg 2 Y<|dW<|wo Y (dH Pe)<|wg 1 Y<|wx Y (XL bP Pe MK MK) fun|_,⟨t1,rfl,BU,BT⟩=>⟨Y,?_⟩
   exact wt Y (wq MK MK)
  ·obtain⟨a,rfl⟩:=vM (show es.length=1 by omega);have ha:=he a NS;refine wr Y<|wn Y af<|wg 9 Y<|wo Y (dH Pe)<|wo Y (dH Pe)<|wg 2 Y<|wo Y (dH Pe)<|dW<|wg 1 Y<|wx Y (XL bP Pe MK MK) fun|_,⟨t1,rfl,BU,BT⟩=>⟨Y,?_⟩
   exact wt Y (wq MK MK)
  ·obtain rfl:es=[]:=xE.1 MK;refine wr Y<|wn Y af<|wg 12 Y<|wx Y (L [[115,116,111,112,59]] NS (by simp only [cW,xi,xd] at*;omega) t MK) fun|_,⟨t1,rfl,yJ,yI⟩=>⟨Y,?_⟩
   exact wt Y (wq MK MK)
 have loop:∀(aa V:List Fl.Ex),bf=V++aa->∀es:L5,es.length=V.length->(∀e∈es,e.length<=1260)->Rn F X 102 1 [.sl (strs es++List.replicate aa.length [.str []]),.sl (Ex.ss bf),jD bf.length,jD V.length,.sl (bG t),jD ind,bD kind,.str name,.str cf,.sl (St.ss th),.sl (St.ss el)] (WQ t ind (20000*(1+St.ns th+St.ns el))):=by
  intro aa
  induction aa with
  |nil=>
   intro V aI es h1 h2;rw[xj] at aI;rw[show([]:List Fl.Ex).length=0 from Y,List.replicate_zero,xj,<-aI];exact fin es (by rw[h1,aI]) h2
  |cons a aa ih=>
   intro V aI es h1 h2;have aE:=bC aI;have ao:(Ex.ss bf)[V.length]? =some (Ex.s a):=by rw[aI];exact qe _ _ _
   have ha:=hs.ex a (by rw[aI];simp);have aV:=ha.1.LS ha.2;have ct:=aL3 (X:=X) hP ha.1 MK;have bk:∀s:aq,aF (.kj 0) [.sl (strs es++List.replicate (aa.length+1) [.str []]),jD V.length,.str s]=some (.sl (strs (es++[s])++List.replicate aa.length [.str []])):=fun s=>by
    have e0:(strs es).length=V.length:=by rw[kT,h1]
    rw[<-e0,z8 (ds:=[.str s]) CC (show([D.str []]:Di).length=[D.str s].length from Y),Ct,Nk]
   have qH:aF .iO [.sl (strs es++List.replicate (aa.length+1) [D.str []]),jD V.length]=some (.bool (decide (V.length<bf.length))):=nZ (by simp[kT];omega);have next:=fun(s:aq) (hs:s.length<=1260)=>ih (V++[a]) (by rw[aI,bA]) (es++[s]) (by simp[h1]) (fun e he=>by
    rcases xF.1 he with he|he
    ·exact h2 e he
    ·rw[xy] at he;subst he;exact hs)
   have e1:(V++[a]).length=V.length+1:=NS
   rw[e1] at next;rw[show(a::aa).length=aa.length+1 from Y];obtain⟨o1,n1,i1,a1⟩:=a;refine wr Y<|wy Y af<|wo Y (ax ao Y)<|wg 1 Y<|oe<|wg 1 Y<|wx Y ct fun|_,⟨s,rfl,fW⟩=>⟨Y,?_⟩
   exact wy Y qH<|wo Y (bk s)<|wo Y oA<|b_ Y (next s MK)
 have g:=loop bf [] rfl [] rfl (fun e h=>by cases h);exact wr Y<|w8<|wo Y (au (gf _))<|wo Y (CO rfl MK MK)<|wo Y (au (gf _))<|wj g
end
section
def CZ(X:Bv):Prop:=∀(cf:aq) (bf:List Fl.Ex) (es:L5) (t:EH) (ind:Nat),1<=bf.length->bf.length<=3->es.length=bf.length->(∀e∈es,e.length<=1260)->cf.length<=6->ind<=41->t.length<=100000000000->
 Rn F X 102 1 [.sl (strs es),.sl (Ex.ss bf),jD bf.length,jD bf.length,.sl (bG t),jD ind,bD 7,.str [],.str cf,.sl [],.sl []] (WQ t ind 20000)
theorem dL.AM{P:St->Prop}{cf:aq}{th el:JH}(h:dL P ⟨kind,name,cf,bf,th,el⟩):P ⟨kind,name,cf,bf,th,el⟩/\(∀s∈th,dL P s)/\∀s∈el,dL P s:=by
 cases h with
 |mk a b c=>exact⟨a,b,c⟩
theorem aA9(hP:wQ X)(h7:CZ X):∀(m:Nat) (l:JH),St.ns l<=m->(∀s∈l,dL jy s)->BW X l:=by
 intro m
 induction m with
 |zero=>
  intro l hl h t ind hi ht;have:=mS l;obtain rfl:l=[]:=xE.1 MK;exact wr Y<|wo Y oA<|wo Y bc<|b_ Y<|wr Y<|wg 1 Y<|wo Y oW<|wt Y ⟨t,rfl,MK,MK⟩
 |succ m ih=>
  intro l hl h t ind hi ht;have loop:∀(aa V:JH),l=V++aa->∀t':EH,t.length<=t'.length->t'.length<=t.length+20000*St.ns V->Rn F X 103 1 [.sl (St.ss l),jD l.length,jD V.length,.sl (bG t'),jD (ind+1)] (WQ t ind (20000*St.ns l)):=by
   intro aa
   induction aa with
   |nil=>
    intro V aI t' q1 q2;rw[xj] at aI;subst aI;exact wr Y<|wn Y af<|wo Y oW<|wt Y ⟨t',rfl,MK,MK⟩
   |cons a aa cS=>
    intro V aI t' q1 q2;have aE:=bC aI;have lm:=mS l;have ao:(St.ss l)[V.length]? =some (St.s a):=by rw[aI];exact uY _ _ _
    have lj:St.ns l=St.ns V+(St.n a+St.ns aa):=by rw[aI,St.vk];rfl
    have next:=cS (V++[a]) (by rw[aI,bA]);rw[xa,St.vk] at next;have ha:=h a (by rw[aI];simp);obtain⟨kind,name,cf,bf,th,el⟩:=a;obtain⟨jI,h1,h2⟩:=dL.AM ha;simp only [St.n] at lj;have jI:Dr kind name cf bf th el:=jI;have oE:cf.length<=6:=by
     rcases jI.hn with⟨_,h⟩|⟨_,rfl⟩
     ·exact qY h
     ·exact xL _
    have c1:=aA7 (X:=X) hP jI (ih th MK h1) (ih el MK h2) (t:=t') (ind:=ind+1) MK MK MK MK (fun hk es ba gZ=>by
     subst hk;obtain rfl:name=[]:=by rcases jI.nm with⟨h,_⟩|⟨_,h⟩;omega;exact h
     obtain rfl:th=[]:=by rcases jI.g9 with h|h|h;omega;omega;exact h
     obtain rfl:el=[]:=by rcases jI.eln with h|h|h|h;omega;omega;omega;exact h
     have hx:1<=bf.length/\bf.length<=3:=by have:=jI.ln;omega
     exact h7 cf bf es t' (ind+1) hx.1 hx.2 ba gZ oE MK MK)
    refine wr Y<|wy Y af<|wo Y (ax ao Y)<|wg 1 Y<|lS<|wg 1 Y<|wx Y c1 fun|_,⟨t2,rfl,q3,q4⟩=>⟨Y,?_⟩
    exact wo Y oA<|b_ Y (next t2 MK (by simp only [St.ns,St.n];omega))
  have g:=loop l [] rfl t MK MK;exact wr Y<|wo Y oA<|wo Y (au (l9 _))<|wj g
theorem an7(hP:wQ X)(h7:CZ X){l:List Hn}(hl:l.length<=3)(h:∀x∈l,B6 x)(hi:ind<=20)(ht:t.length<=10000000000):Rn F X 104 0 [.sl (bG t),jD ind,.sl (l.map Hn.s)] (WQ t ind (300000*l.length)):=by
 have loop:∀(aa V:List Hn),l=V++aa->∀t':EH,t.length<=t'.length->t'.length<=t.length+300000*V.length->Rn F X 104 1 [.sl (l.map Hn.s),jD l.length,jD V.length,.sl (bG t'),jD ind] (WQ t ind (300000*l.length)):=by
  intro aa
  induction aa with
  |nil=>
   intro V aI t' q1 q2;rw[xj] at aI;subst aI;exact wr Y<|wn Y af<|wt Y ⟨t',rfl,MK,MK⟩
  |cons a aa cS=>
   intro V aI t' q1 q2;have aE:=bC aI;have ao:=cz (f:=Hn.s) aI;have next:=cS (V++[a]) (by rw[aI,bA]);rw[xa] at next;have e1:V.length+[a].length=V.length+1:=rfl;rw[e1] at next;have ha:=h a (by rw[aI];simp);have Mj:=qY ha.name;obtain⟨s9,y5,cj⟩:=hP.join a.params 6 (by have:=ha.params.1;omega) (fun s hs=>qY (ha.params.2 s hs)) MK;have c1:=aA9 (X:=X) hP h7 12 a.body ha.n ha.body;have gK:=ha.n;have L:=fun(ps:L5) (hp:ps.length<=20) (hs:cW ps<=6000) (t1:EH) (ht:t1.length<=200000000000)=>Ko (X:=X) (ps:=ps) hp hs (ind:=ind) MK ht
   obtain⟨n1,n2,n3⟩:=a;simp only at Mj cj c1 gK;refine wr Y<|wy Y af<|wo Y (ax ao Y)<|wg 1 Y<|w9<|wl Y cj rfl<|wg 2 Y<|wx Y (L [[111,110,32],n1,[40],s9,[41,32,123]] NS (by simp only [cW,xi,xd];omega) t' MK) fun|_,⟨t1,rfl,BU,BT⟩=>⟨Y,?_⟩
   refine wg 1 Y<|wx Y (c1 t1 ind MK MK) fun|_,⟨t2,rfl,EG,BS⟩=>⟨Y,?_⟩
   refine dW<|wg 2 Y<|wx Y (L [[125]] NS (by simp only [cW,xi,xd];omega) t2 MK) fun|_,⟨t3,rfl,wF,TS⟩=>⟨Y,?_⟩
   exact wo Y oA<|b_ Y (next t3 MK MK)
 have g:=loop l [] rfl t MK MK;exact wr Y<|wo Y (au (ch _ _))<|wj g
end
section
abbrev LN(X:Bv)(ind:Nat):Prop:=∀(ps:L5),ps.length<=20->cW ps<=6000->∀(t1:EH),t1.length<=200000000000->Rn F X 100 0 [.sl (bG t1),jD ind,.sl (strs ps)] (WQ t1 ind 6200)
theorem L4(h:ind<=60):LN X ind:=fun ps hp hs t1 ht=>Ko (X:=X) (ps:=ps) hp hs h ht
theorem bC7:Rn F X 96 0 [] (·=[.str [116,114,117,101]]):=by
 exact wr Y<|wt Y Y
theorem ak7:Rn F X 97 0 [] (·=[.str [102,97,108,115,101]]):=by
 exact wr Y<|wt Y Y
theorem aA8(hP:wQ X)(hI:wS X)(h7:CZ X)(hc:Io c)(ht:t.length<=1000000000):Rn F X 105 0 ([.sl (bG t),jD 1]++c.s) (WQ t 1 3000000):=by
 have L1:LN X 1:=L4 MK;have L2:LN X 2:=L4 MK;have Mj:=qY hc.name;have Tc:=hc.vars.1;have dJ:=hc.vs.2;have kW:∀(aa V:Mm),c.aS=V++aa->∀t':EH,t.length<=t'.length->t'.length<=t.length+40000+1000000*V.length->Rn F X 105 2 [.sl (ca c.aS),jD c.aS.length,jD V.length,.sl (bG t'),jD 2] (WQ t 1 3000000):=by
  intro aa
  induction aa with
  |nil=>
   intro V aI t' q1 q2;rw[xj] at aI;have hp':V.length=c.aS.length:=by rw[aI]
   refine wr Y<|wn Y af<|wo Y (eO (a:=2) (b:=1) MK MK)<|wg 2 Y<|wx Y (L1 [[125]] NS (by simp only [cW,xi,xd];omega) t' MK) fun|_,⟨t3,rfl,wF,TS⟩=>⟨Y,?_⟩
   exact wt Y ⟨t3,rfl,MK,MK⟩
  |cons a aa cS=>
   intro V aI t' q1 q2;have aE:=bC aI;have ao:(ca c.aS)[V.length]? =some [.sl (a.map Hn.s)]:=cz (f:=fun l:List Hn=>[D.sl (l.map Hn.s)]) aI;have next:=cS (V++[a]) (by rw[aI,bA]);rw[xa] at next;have e1:V.length+[a].length=V.length+1:=rfl;rw[e1] at next;have ha:=hc.hs a (by rw[aI];simp);have TG:=ha.1;have cH:=fun(t1:EH) (ind:Nat) (hi:ind<=20) (h:t1.length<=10000000000)=>an7 (X:=X) hP h7 ha.1 ha.2 (t:=t1) hi h
   rcases xI V.length with h0|h0
   ·rw[h0] at ao next⊢;refine wr Y<|wy Y af<|wo Y (ax ao Y)<|wg 1 Y<|w7<|wy Y ay<|wg 1 Y<|wx Y (cH t' 2 MK MK) fun|_,⟨t2,rfl,EG,BS⟩=>⟨Y,?_⟩
    exact wo Y oA<|b_ Y (next t2 MK MK)
   ·obtain⟨s9,y5,ci⟩:=hI.K6 (V.length+1) MK;refine wr Y<|wy Y af<|wo Y (ax ao Y)<|wg 1 Y<|w7<|wn Y ay<|wo Y oA<|wl Y ci rfl<|wg 2 Y<|wx Y (L2 [[118,101,114,115,105,111,110,32],s9,[32,123]] NS (by simp only [cW,xi,xd];omega) t' MK) fun|_,⟨t1,rfl,BU,BT⟩=>⟨Y,?_⟩
    refine lS<|wo Y oA<|wg 1 Y<|wx Y (cH t1 3 MK MK) fun|_,⟨t2,rfl,EG,BS⟩=>⟨Y,?_⟩
    refine wo Y (eO (a:=3) (b:=1) MK MK)<|wg 2 Y<|gV<|wx Y (L2 [[125]] NS (by simp only [cW,xi,xd];omega) t2 MK) fun|_,⟨t3,rfl,wF,TS⟩=>⟨Y,?_⟩
    exact wo Y oA<|b_ Y (next t3 MK MK)
 have Ge:∀(aa V:List Vr),c.vars=V++aa->∀t':EH,t.length<=t'.length->t'.length<=t.length+6200+6200*V.length->Rn F X 105 1 [.sl (c.vars.map Vr.s),jD c.vars.length,jD V.length,.sl (bG t'),jD 2,.str c.name,.sl (ca c.aS)] (WQ t 1 3000000):=by
  intro aa
  induction aa with
  |nil=>
   intro V aI t' q1 q2;rw[xj] at aI;have hp':V.length=c.vars.length:=by rw[aI]
   exact wr Y<|wn Y af<|wo Y (au (xm _))<|b_ Y (kW c.aS [] rfl t' q1 Of)
  |cons a aa cS=>
   intro V aI t' q1 q2;have aE:=bC aI;have ao:=cz (f:=Vr.s) aI;have next:=cS (V++[a]) (by rw[aI,bA]);rw[xa] at next;have e1:V.length+[a].length=V.length+1:=rfl;rw[e1] at next;have ha:=hc.vars.2 a (by rw[aI];simp);have an6:=qY ha.name;have El:=ha.type;obtain⟨a1,a2,a3⟩:=a;simp only at an6 El;rcases El with⟨rfl,hq⟩|⟨rfl|rfl,rfl⟩
   ·obtain⟨s9,y5,ci⟩:=hP.int a3 MK;refine wr Y<|wy Y af<|wo Y (ax ao Y)<|wg 1 Y<|dF<|wg 1 Y<|wl Y ci rfl<|wg 2 Y<|wx Y (L2 [[118,97,114,32],a1,[58,32,105,110,116,32,61,32],s9,[59]] NS (by simp only [cW,xi,xd];omega) t' MK) fun|_,⟨t1,rfl,BU,BT⟩=>⟨Y,?_⟩
    exact wo Y oA<|oe<|b_ Y (next t1 MK MK)
   ·refine wr Y<|wy Y af<|wo Y (ax ao Y)<|wg 1 Y<|dF<|wg 3 Y<|wl Y ak7 rfl<|wg 2 Y<|wx Y (L2 [[118,97,114,32],a1,[58,32,98,111,111,108,32,61,32],[102,97,108,115,101],[59]] NS (by simp only [cW,xi,xd];omega) t' MK) fun|_,⟨t1,rfl,BU,BT⟩=>⟨Y,?_⟩
    exact wo Y oA<|oe<|b_ Y (next t1 MK MK)
   ·refine wr Y<|wy Y af<|wo Y (ax ao Y)<|wg 1 Y<|dF<|wg 5 Y<|wx Y (L2 [[118,97,114,32],a1,[58,32,116,97,98,108,101,59]] NS (by simp only [cW,xi,xd];omega) t' MK) fun|_,⟨t1,rfl,BU,BT⟩=>⟨Y,?_⟩
    exact wo Y oA<|b_ Y (next t1 MK MK)
 have g:=Ge c.vars [] rfl;obtain⟨c1,c2,c3⟩:=c;simp only at Mj;refine wr Y<|w5<|wg 2 Y<|wx Y (L1 [[99,111,109,112,111,110,101,110,116,32],c1,[32,123]] NS (by simp only [cW,xi,xd];omega) t MK) fun|_,⟨t1,rfl,BU,BT⟩=>⟨Y,?_⟩
 exact wo Y (bg (a:=1) (b:=1) MK)<|wo Y (au (ch _ _))<|nR<|b_ Y (g t1 MK Of)
end
section
theorem aA4(hP:wQ X):CZ X:=by
 intro cf bf es t ind h1 h3 dU he oE hi ht;have L:=fun(ps:L5) (hp:ps.length<=20) (hs:cW ps<=6000) (t1:EH) (ht:t1.length<=200000000000)=>Ko (X:=X) (ps:=ps) hp hs (ind:=ind) MK ht
 obtain⟨a,r,rfl⟩:∃a r,es=a::r:=by
  cases es with
  |nil=>simp at dU;omega
  |cons a r=>exact⟨a,r,rfl⟩
 have ha:=he a NS;have ow:r.length<=3:=by simp at dU;omega
 obtain⟨s9,y5,cj⟩:=hP.join r 1260 ow (fun e h=>he e (by simp[h])) MK;have fW:aF (.pR 1) [.sl (strs (a::r)),jD 1]=some (.sl (strs r)):=Jh (a:=1) (by simp[kT]) (fun row h=>(IE _ row h).1);refine wr Y<|wn Y af<|wg 10 Y<|wo Y fW<|wl Y cj rfl<|dW<|wg 2 Y<|wx Y (L [[97,102,116,101,114,32],a,[32,100,111,32],cf,[40],s9,[41,59]] NS (by simp only [cW,xi,xd] at*;omega) t MK) fun|_,⟨t1,rfl,yJ,yI⟩=>⟨Y,?_⟩
 exact wt Y ⟨t1,rfl,MK,by simp only [cW,xi,xd] at*;omega⟩
end
section
def Rr(o:Option (List D)):Bool:=match o with|some [.bool true]=>true|_=>false
def K7(o:Option (List D)):Bool:=match o with|some [.str s]=>decide (s.length<=3)|_=>false
theorem aQ3(h:Rr o=true):o=some [.bool true]:=by
 unfold Rr at h;split at h
 ·rfl
 ·cases h
theorem Xs(h:K7 o=true):∃s:aq,s.length<=3/\o=some [.str s]:=by
 unfold K7 at h;split at h
 ·exact⟨_,of_decide_eq_true h,rfl⟩
 ·cases h
theorem Rn.S0{i:Nat}{ds o:Di}(h:exec F X n i 0 ds=some o):Rn F X i 0 ds (·=o):=⟨o,(zS F X).2 ⟨n,h⟩,rfl⟩
theorem ax2:(GN.all fun s=>Rr (exec F X 30 109 0 [.str s]))=true:=by kernel_rfl
theorem ax5:∀s∈GN,Rn F X 109 0 [.str s] (·=[.bool true]):=fun s hs=>Rn.S0 (aQ3 (List.all_eq_true.1 (ax2 (X:=X)) s hs))
theorem aG4:((List.range 13).all fun n=>K7 (exec F X 9 111 0 [iD n]))=true:=by kernel_rfl
theorem aQ2:wS X:=⟨fun n hn=>by
 obtain⟨s,h1,h2⟩:=Xs (List.all_eq_true.1 (aG4 (X:=X)) n (List.mem_range.2 MK));exact⟨s,h1,Rn.S0 h2⟩⟩
theorem aH6:((List.range 9).all fun n=>K7 (exec F X 9 112 0 [iD n,iD 10]))=true:=by kernel_rfl
theorem aR8:∀n,n<=8->∃s:aq,s.length<=3/\Rn F X 112 0 [iD n,iD 10] (·=[.str s]):=fun n hn=>by
 obtain⟨s,h1,h2⟩:=Xs (List.all_eq_true.1 (aH6 (X:=X)) n (List.mem_range.2 MK));exact⟨s,h1,Rn.S0 h2⟩
end
section
theorem Wu:∀l:EH,vo (bG l).flatten=some l
 |[]=>rfl
 |b::l=>by
  show(if b.toNat<256 then(vo (bG l).flatten).map (fun r=>b.toNat.toUInt8::r) else none)=_;rw[i_ b.toNat_lt,Wu l];simp
theorem V9(h:t.length<=1000000000000):aF .C2 [.sl (bG t),jD t.length]=some (.str t):=by
 show(if((t.length:Nat):Int)=((bG t).length:Int)/\(bG t).length<=9223372036854775807 then(vo (bG t).flatten).map D.str else none)=_;rw[i_ ⟨by rw[rF],by rw[rF];omega⟩,Wu];rfl
theorem aX3(h:n<=1000000000):aF (.n0 1 1) [jD n,jD n,.int .u8 0]=some (.sl (List.replicate n [.int .u8 0])):=by
 show(if _ then _ else none)=_;rw[i_ ⟨rfl,xk _,by simp[mX];omega⟩]
theorem VS{l V aa:L5}{a:aq}(h:l=V++a::aa):(strs l)[V.length]? =some [.str a]:=cz (f:=fun p=>[D.str p]) h
theorem bl6(hm:m<=100000){r:L5}(hr:r.length<=3)(h:∀s∈r,s.length<=m):∀(aa V:L5),r=V++aa->∀t:EH,1<=t.length+aa.length->t.length+(m+2)*aa.length<=1000000->Rn F X 113 2 [.str [44,32],.sl (strs r),jD r.length,jD V.length,.sl (bG t)] (fun o=>∃s:aq,o=[.str s]/\s.length<=t.length+(m+2)*aa.length):=by
 intro aa
 induction aa with
 |nil=>
  intro V hp t h1 h2;rw[xj] at hp;have hp':V.length=r.length:=by rw[hp]
  have h1:1<=t.length:=by simpa using h1
  exact wr Y<|wn Y af<|wo Y (au (rF _))<|wy Y (nZ (k:=0) (rF _))<|wo Y (V9 MK)<|wt Y ⟨t,rfl,NS⟩
 |cons a aa ih=>
  intro V hp t h1 h2;have aE:=bC hp;have ao:=VS hp;have ha:=h a (by rw[hp];simp);have mH:aa.length<=2:=MK
  have next:=fun(t':EH)=>ih (V++[a]) (by rw[hp,bA]) t'
  rw[xa,show[a].length=1 from Y] at next;have Ui:=uZ (t:=t) (s:=[44,32]) Of;have l1:(t++[44,32]).length=t.length+2:=NS
  have ap2:=uZ (t:=t++[44,32]) (s:=a) (by rw[l1];omega);have DK:(m+2)*(aa.length+1)=(m+2)*aa.length+(m+2):=Nat.mul_succ _ _;rw[show(a::aa).length=aa.length+1 from Y] at h2⊢;have l2:(t++[44,32]++a).length=t.length+2+a.length:=by rw[xa,l1]
  have nx:=(next (t++[44,32]++a) MK MK).mono (Q':=fun o=>∃s:aq,o=[.str s]/\s.length<=t.length+(m+2)*(aa.length+1)) (fun o ⟨s,e1,e2⟩=>⟨s,e1,by rw[l2] at e2;omega⟩);exact wr Y<|wy Y af<|wo Y (ax ao Y)<|wg 2 Y<|wo Y Ui<|wg 1 Y<|w9<|wg 1 Y<|wo Y ap2<|wg 1 Y<|wo Y oA<|wj nx
theorem aQ1:∀(l:L5) (m:Nat),l.length<=3->(∀s∈l,s.length<=m)->m<=100000->∃s:aq,s.length<=3*m+4/\Rn F X 113 0 [.sl (strs l),.str [44,32]] (·=[.str s]):=by
 intro l m hl h hm
 match l,hl,h with
 |[],_,_=>
  refine⟨[],xL _,?_⟩;exact wr Y<|wg 2 Y<|wt Y Y
 |[a],_,h=>
  have ha:=h a NS;refine⟨a,MK,?_⟩;exact wr Y<|wg 5 Y<|wt Y Y
 |a::b::r,hl,h=>
  have ha:=h a NS;have hr:(b::r).length<=2:=by simp at hl⊢;omega
  generalize hq:b::r=q at*;have hq1:1<=q.length:=by rw[<-hq];simp
  have j2:=fun(t:EH) (h1:t.length<=m)=>bl6 (X:=X) hm (r:=q) MK (fun s hs=>h s (by simp[hs])) q [] rfl t MK (by
   have:(m+2)*q.length<=(m+2)*2:=Nat.mul_le_mul_left _ hr;omega)
  have key:Rn F X 113 0 [.sl (strs (a::q)),.str [44,32]] (fun o=>∃s:aq,o=[.str s]/\s.length<=3*m+4):=by
   have bj5:∀(aa V:L5),a::q=V++aa->∀n:Nat,2<=n->n<=10+m*V.length->Rn F X 113 1 [.sl (strs (a::q)),.str [44,32],jD n,jD (a::q).length,jD V.length] (fun o=>∃s:aq,o=[.str s]/\s.length<=3*m+4):=by
    intro aa
    induction aa with
    |nil=>
     intro V hp n h1 h2;rw[xj] at hp;have hp':V.length=q.length+1:=by rw[<-hp];rfl
     have hn:n<=10+m*3:=xH h2 (Nat.add_le_add_left (Nat.mul_le_mul_left _ MK) _);have ao:(strs (a::q))[0]? =some [.str a]:=rfl;have Ui:aF (.app 1 1) [.sl [],.str a]=some (.sl (bG a)):=uZ (t:=[]) (s:=a) Of;have fW:aF (.pR 1) [.sl (strs (a::q)),jD 1]=some (.sl (strs q)):=Jh (a:=1) (by simp[kT]) (fun row h=>(IE _ row h).1);have nx:=(j2 a MK).mono (Q':=fun o=>∃s:aq,o=[.str s]/\s.length<=3*m+4) (fun o ⟨s,e1,e2⟩=>⟨s,e1,by
      have:(m+2)*q.length<=(m+2)*2:=Nat.mul_le_mul_left _ hr;omega⟩)
     exact wr Y<|Wp.c8 Y af Of<|wn Y (af (a:=(n:Int)) (b:=0))<|wy Y (af (a:=0) (b:=(n:Int)))<|wo Y (bg (a:=0) (b:=n) MK)<|wo Y (aX3 (n:=0+n) MK)<|wg 1 Y<|wo Y (ax ao Y)<|w9<|wg 2 Y<|wo Y Ui<|wg 1 Y<|wo Y fW<|mw<|wo Y (au (kT _))<|wj nx
    |cons x aa ih=>
     intro V hp n h1 h2;have aE:=bC hp;have ao:=VS hp;have hx:=h x (by rw[show a::q=V++x::aa from hp];simp);have jf:V.length<=2:=by simp at aE;omega
     have hn:n<=10+m*2:=xH h2 (Nat.add_le_add_left (Nat.mul_le_mul_left _ jf) _);have next:=ih (V++[x]) (by rw[hp,bA]) (n+x.length) MK (by rw[xa,show[x].length=1 from Y,Nat.mul_add];omega);rw[xa,show[x].length=1 from Y] at next;exact wr Y<|wy Y af<|wo Y (ax ao Y)<|wg 2 Y<|wo Y (eO (a:=9223372036854775807) (b:=n) MK MK)<|w9<|wn Y bZ<|wg 1 Y<|wo Y (bg (a:=n) (b:=x.length) MK)<|wo Y (bg (a:=V.length) (b:=1) MK)<|wj next
   have e1:(strs (a::q)).length=q.length+1:=by rw[kT];rfl
   have g:=fun n (h1:2<=n) (h2:n<=10)=>bj5 (a::q) [] rfl n h1 MK
   rw[show(a::q).length=q.length+1 from Y] at g;have qF:q.length=1\/q.length=2:=MK
   rcases qF with e|e
   ·rw[e] at e1 g;exact wr Y<|wo Y (au e1)<|wg 5 Y<|wo Y (au e1)<|w6<|wg 4 Y<|wo Y (au e1)<|nR<|wg 3 Y<|wo Y (au e1)<|m6<|b_ Y (g _ Pp Pp)
   ·rw[e] at e1 g;exact wr Y<|wo Y (au e1)<|wg 5 Y<|wo Y (au e1)<|w6<|wg 4 Y<|wo Y (au e1)<|nR<|wg 3 Y<|wo Y (au e1)<|m6<|b_ Y (g _ Pp Pp)
  obtain⟨o,h1,s,rfl,h2⟩:=key;exact⟨s,h2,_,h1,rfl⟩
theorem gE:wQ X:=⟨aR8,aQ1⟩
end
end Go.Proofs.YthicpeihkkokmaaGreatDoor
