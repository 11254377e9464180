/- What these functions answer. -/
import Derived.Test.YthicpeihkkokmaaGreatDoorP6
import Derived.KernelRfl
set_option linter.unusedVariables false
set_option linter.unusedSimpArgs false
set_option maxHeartbeats 4000000
set_option maxRecDepth 100000
namespace Go.Proofs.YthicpeihkkokmaaGreatDoor
open Go.Ex Go.RowKit Go.Fl
variable{X:a0a}{c:Cm}{n bys m ind kind:Nat}{V:a0b}{l:a0p}{e:Fl.Ex}{t:a0h}{name:aq}{bh:List Fl.Ex}{o:Option (List D)}
theorem _root_.Go.a0E{p:Prop}(h:p:=by first|omega|(simp only [xa,xi,xd];omega)):p:=h
theorem _root_.Go.a0G{p:Prop}(h:p:=by simp only [xa,xi,xd];omega):p:=h
section
variable{ar:a0f}{f:dg}{hss:List (List aq)}{i:Nat}{al:a0g}
abbrev tY(hss:List (List aq)):a0b:=hss.map fun l=>[.sl (strs l)]
theorem Ov(l:a0s)(s:aq):strs l++[[.str s]]=strs (l++[s]):=by simp[strs]
theorem lA(l:a0s):(strs l).length=l.length:=xm _
theorem aR6(hf:gZ ar f)(hi:f.comps[i]? =some c)(aQ:ar[i]? =some al)(hh:hss.length=ar.length)(o5:∀l∈hss,l.length<=1000)(ii:hss[i]? =some (aP 104 al.length)){p:Cp}(hpf:p.f=f)(vp:p.hs=hss){code:a0b}:Rn F X 79 0 (il p code++[jD i]) (CQ f hss (aP 104 al.length)):=by
 have FL:=hf.comps i c hi;obtain⟨ints,tables,NM,i1,i3,t1,zP,LC,mq,dK,hvl,bI⟩:=FL.rest;rw[aQ] at zP;cases zP;have yc:=hf.n;have am9:=hf.jC al (xu aQ);have hvn:c.vars.length=ints+1+tables:=by rw[LC];exact NY _ _
 have bE:=hf.flags.1;have ao:(tY hss)[i]? =some [.sl (strs (aP 104 al.length))]:=by rw[xx,ii];rfl
 have hN:al.length=1\/al.length=2\/al.length=3:=a0B
 obtain⟨pf,rk,own,pv,pt,pfl,params⟩:=p;simp only at hpf vp;subst hpf;subst vp;have fin:∀(va ta fa:a0s),va.length<=1000->ta.length<=1000->fa.length<=1000->Rn F X 79 2 [jD i,.sl (c.vars.map Vr.s),jD c.vars.length,jD c.vars.length,.str pf.name,.sl (pf.flags.map Fg.d),.sl (pf.links.map Lk.d),.sl (pf.comps.map Cm.s),.sl (tY rk),.sl (strs va),.sl (strs ta),.sl (strs fa),.sl (strs params),.sl code,.str c.name,.sl (ca c.aT)] (CQ pf rk (aP 104 al.length)):=by
  intro va ta fa q1 q2 q3;have Vq:PO pf rk i ⟨pf,rk,i,va,ta,fa,params⟩:=⟨rfl,rfl,rfl,q1,q2,q3⟩;rcases hN with hN|hN|hN
  ·have g:=bA1 (X:=X) (c:=c) hf hh o5 aQ i3 t1 hN dK bI c.aT [] rfl _ code Vq [] [] rfl rfl ⟨0,0,[]⟩ false;rw[hN] at ao⊢;exact wr Y<|wn Y ai<|wo Y (aA ao Y)<|wg 1 Y<|Wp.Fi Y Y Y<|Wp.Fi Y Y Y<|wo Y (az (xm _))<|wj g
  ·have g:=bA0 (X:=X) (c:=c) hf hh o5 aQ i3 t1 hN dK bI c.aT [] rfl _ code Vq [] [] rfl rfl ⟨0,0,[]⟩ ⟨0,0,[]⟩ false false;rw[hN] at ao⊢;exact wr Y<|wn Y ai<|wo Y (aA ao Y)<|wg 1 Y<|Wp.T3 Y Y Y<|Wp.Fi Y Y Y<|Wp.Fi Y Y Y<|wo Y (az (xm _))<|wj g
  ·have g:=bz9 (X:=X) (c:=c) hf hh o5 aQ i3 t1 hN dK bI c.aT [] rfl _ code Vq [] [] rfl rfl ⟨0,0,[]⟩ ⟨0,0,[]⟩ ⟨0,0,[]⟩ false false false;rw[hN] at ao⊢;exact wr Y<|wn Y ai<|wo Y (aA ao Y)<|wg 1 Y<|Wp.T3 Y Y Y<|Wp.T3 Y Y Y<|Wp.Fi Y Y Y<|Wp.Fi Y Y Y<|wo Y (az (xm _))<|wj g
 have lF:∀(aa V:List Vr),c.vars=V++aa->∀(va ta fa:a0s),va.length<=V.length->ta.length<=V.length->fa.length<=1000->Rn F X 79 2 [jD i,.sl (c.vars.map Vr.s),jD c.vars.length,jD V.length,.str pf.name,.sl (pf.flags.map Fg.d),.sl (pf.links.map Lk.d),.sl (pf.comps.map Cm.s),.sl (tY rk),.sl (strs va),.sl (strs ta),.sl (strs fa),.sl (strs params),.sl code,.str c.name,.sl (ca c.aT)] (CQ pf rk (aP 104 al.length)):=by
  intro aa
  induction aa with
  |nil=>
   intro V aJ va ta fa q1 q2 q3;rw[xj] at aJ;rw[<-aJ] at q1 q2⊢;exact fin va ta fa a0B a0B q3
  |cons v aa ih=>
   intro V aJ va ta fa q1 q2 q3;have aD:=bG aJ;have My:=cA (f:=Vr.s) aJ;have next:=ih (V++[v]) (by rw[aJ,bw]);rw[xa] at next;have e1:V.length+[v].length=V.length+1:=rfl;rw[e1] at next;obtain⟨v1,v2,v3⟩:=v;have nA:=next (va++[v1]) ta fa a0F a0B q3;have nB:=next va (ta++[v1]) fa a0B a0F q3;rw[<-Ov] at nA nB;have la:=lA va;have lb:=lA ta;refine wr Y<|wy Y ai<|wo Y (aA My rfl)<|wg 1 Y<|mf<|d_ Y ay ?_ ?_<;>intro h
   ·exact wg 2 Y<|wo Y oP<|wo Y oA<|wj nB
   ·exact wg 2 Y<|wo Y oP<|wo Y oA<|wj nA
 have BC:∀(aa V:List Fg),pf.flags=V++aa->∀(fa:a0s),fa.length<=V.length->Rn F X 79 1 [jD i,.sl (pf.flags.map Fg.d),jD pf.flags.length,jD V.length,.str pf.name,.sl (pf.links.map Lk.d),.sl (pf.comps.map Cm.s),.sl (tY rk),.sl (strs fa),.sl (strs params),.sl code,.str c.name,.sl (c.vars.map Vr.s),.sl (ca c.aT)] (CQ pf rk (aP 104 al.length)):=by
  intro aa
  induction aa with
  |nil=>
   intro V aJ fa q1;rw[xj] at aJ;have cv7:V.length=pf.flags.length:=by rw[aJ]
   have g:=lF c.vars [] rfl [] [] fa a0C a0C a0B;exact wr Y<|wn Y ai<|wo Y (az (xm _))<|wj g
  |cons v aa ih=>
   intro V aJ fa q1;have aD:=bG aJ;have My:=cA (f:=Fg.d) aJ;have next:=ih (V++[v]) (by rw[aJ,bw]);rw[xa] at next;have e1:V.length+[v].length=V.length+1:=rfl;rw[e1] at next;obtain⟨v1,v2⟩:=v;have nA:=next (fa++[v1]) a0F;rw[<-Ov] at nA;have la:=lA fa;cases v2
   ·exact wr Y<|wy Y ai<|wo Y (aA My rfl)<|wg 2 Y<|hZ<|wg 2 Y<|wo Y oP<|wo Y oA<|wj nA
   ·exact wr Y<|wy Y ai<|wo Y (aA My rfl)<|wg 1 Y<|hZ<|wg 2 Y<|wo Y oP<|wo Y oA<|wj nA
 have g:=BC pf.flags [] rfl [] a0C;have bI5:(pf.comps.map Cm.s)[i]? =some (Cm.s c):=by rw[xx,hi];rfl
 obtain⟨c1,c2,c3⟩:=c;exact wr Y<|wo Y (aA bI5 rfl)<|wg 1 Y<|oT<|wo Y (az (xm _))<|wj g
def Ez(ar:a0f)(rows:a0b):Prop:=rows.length=ar.length/\∀(i:Nat) (al:a0g),ar[i]? =some al->∃us fs:a0b,rows[i]? =some [D.sl (strs (aP 104 al.length)),D.sl us,D.sl fs]
def TX(ar:a0f)(o:a0d):Prop:=∃rows,o=[.ptr [.sl rows] 0,iD 0]/\Ez ar rows
theorem aC9(hX:m8 X)(hI:yr X)(hf:gZ ar f):Rn F X 84 0 f.s (TX ar):=by
 have k1:=Pm hX hf.ok;have k2:=av1 hX hI hf;have hn:=hf.n
 let H:=fun(l:a0f)=>l.map fun al=>aP 104 al.length
 have hH:∀l,(H l).length=l.length:=fun l=>xm _
 have hHl:∀l∈H ar,l.length<=1000:=fun l hl=>by
  obtain⟨al,ha,rfl⟩:=xJ.1 hl;have:=(hf.jC al ha).2.1;simp[aP];omega
 have c2:∀(k i:Nat),i+k=f.comps.length->∀(p:Cp) (code rows:a0b),p.f=f->p.hs=H ar->rows.length=i->(∀(j:Nat) (al:a0g),j<i->ar[j]? =some al->∃us fs:a0b,rows[j]? =some [D.sl (strs (aP 104 al.length)),D.sl us,D.sl fs])->Rn F X 84 2 ([jD f.comps.length,jD i]++il p code++[.sl rows]) (TX ar):=by
  intro k
  induction k with
  |zero=>
   intro i hi p code rows pP aO eB bu;exact wr Y<|nL<|wn Y ai<|wg 1 Y<|wt Y ⟨rows,rfl,a0B,fun j al ha=>bu j al (by have:=iR ha;omega) ha⟩
  |succ k ih=>
   intro i hi p code rows pP aO eB bu;have ov:i<f.comps.length:=a0B
   have FF:i<ar.length:=a0B
   have aQ:ar[i]? =some ar[i]:=xc FF;have cc:=aR6 (X:=X) hf (xc ov) aQ (hss:=H ar) (hH ar) hHl (by show(ar.map _)[i]? =_;rw[xx,aQ];rfl) pP aO (code:=code);have next:=ih (i+1) a0B;refine wr Y<|nL<|wy Y ai<|wg 1 Y<|wx Y cc fun|_,⟨us,fs,p2,bl,rfl,hq1,pO⟩=>⟨Y,?_⟩
   refine oR<|wg 2 Y<|wo Y oP<|wo Y oA<|b_ Y ?_;refine next p2 bl _ hq1 pO (by simp[eB]) (fun j al hj ha=> ?_);rcases Nat.lt_or_ge j i with bk|iL
   ·obtain⟨iX,fs',h'⟩:=bu j al bk ha;exact⟨iX,fs',by rw[xw a0B];exact h'⟩
   ·obtain rfl:j=i:=a0B
    rw[aQ] at ha;cases ha;exact⟨us,fs,by rw[xq a0B,eB,Nat.sub_self];rfl⟩
 have c1:∀(k i:Nat),i+k=f.comps.length->Rn F X 84 1 [.sl (f.comps.map Cm.s),jD f.comps.length,jD i,.str f.name,.sl (f.flags.map Fg.d),.sl (f.links.map Lk.d),.sl (tY (H (ar.take i)))] (TX ar):=by
  intro k
  induction k with
  |zero=>
   intro i hi;have e:ar.take i=ar:=List.take_of_length_le a0B;rw[e];have g:=c2 f.comps.length 0 a0B ⟨f,H ar,0,[],[],[],[]⟩ [] [] rfl rfl rfl (fun j al hj=>a0B);exact wr Y<|wn Y ai<|wo Y (az (xm _))<|wj g
  |succ k ih=>
   intro i hi;have ov:i<f.comps.length:=a0B
   have FF:i<ar.length:=a0B
   have aQ:ar[i]? =some ar[i]:=xc FF;have o7:f.comps[i]? =some f.comps[i]:=xc ov;have cn:=aG1 (X:=X) (hf.comps i _ o7) aQ (hf.jC _ (List.getElem_mem FF)).2.1;have ao:(f.comps.map Cm.s)[i]? =some (Cm.s f.comps[i]):=by rw[xx,o7];rfl
   have next:=ih (i+1) a0B;have e:tY (H (ar.take (i+1)))=tY (H (ar.take i))++[[.sl (strs (aP 104 ar[i].length))]]:=by
    rw[List.take_add_one,aQ];show tY (H (ar.take i++[ar[i]]))=_;simp only [H,tY,List.map_append,List.map_cons,List.map_nil]
   rw[e] at next;have aW:(tY (H (ar.take i))).length=i:=by simp[H,tY];omega
   generalize f.comps[i]=c at ao cn;obtain⟨n1,n2,n3⟩:=c;exact wr Y<|wy Y ai<|wo Y (aA ao Y)<|wg 1 Y<|dC<|wl Y cn rfl<|wg 2 Y<|wo Y oP<|wo Y oA<|ei<|wj next
 have g:=c1 f.comps.length 0 a0B;have k1:Rn F X 41 0 [.str f.name,.sl (f.flags.map Fg.d),.sl (f.links.map Lk.d),.sl (f.comps.map Cm.s)] (·=[iD 0]):=k1;have k2:Rn F X 58 0 [.str f.name,.sl (f.flags.map Fg.d),.sl (f.links.map Lk.d),.sl (f.comps.map Cm.s)] (·=[.str [],.str [],iD 0,iD 0]):=k2;show Rn F X 84 0 [.str f.name,.sl (f.flags.map Fg.d),.sl (f.links.map Lk.d),.sl (f.comps.map Cm.s)] _;exact wr Y<|wl Y k1 rfl<|wg 1 Y<|wl Y k2 rfl<|wg 1 Y<|wo Y (az (cq _ _))<|wj g
end
section
theorem DY{es:Nat}{zs:a0d}(h:zs.length=es)(hn:n<=1000)(hb:bys<=1000):aL (.n5 es bys) (jD n::jD n::zs)=some (.sl (List.replicate n zs)):=by
 show(if _ then _ else none)=_;have:n*bys<=1000*1000:=Nat.mul_le_mul hn hb;rw[i_ ⟨h,xk _,by simp[mK];omega⟩]
theorem Ba{rows:a0b}{i:Nat}{r ds:a0d}(hr:rows[i]? =some r)(hl:r.length=ds.length):aL (.ky 0) (.sl rows::jD i::ds)=some (.sl (rows.set i ds)):=by
 show(rows[i]?).bind _=_;rw[hr];show(if 0+ds.length<=r.length then some (D.sl (rows.set i (r.take 0++ds++r.drop (0+ds.length)))) else none)=_;rw[i_ a0B,List.drop_of_length_le a0B];simp
def vD(l:List Hn):a0d:=[D.sl (l.map Hn.s)]
theorem DA{a z:a0d}:(V++List.replicate (n+1) z).set V.length a=(V++[a])++List.replicate n z:=by
 rw[List.set_append_right _ _ (xk _),Nat.sub_self,List.replicate_succ,List.set_cons_zero];simp
theorem DK{z:a0d}:(V++List.replicate (n+1) z)[V.length]? =some z:=by
 rw[xq (xk _),Nat.sub_self,List.replicate_succ];rfl
theorem ag1{l:List Fl.Ex}(hl:l.length<=1000)(h:∀a∈l,Rn F X 90 0 (Ex.s a) (·=Ex.s a)):Rn F X 85 0 [.sl (l.map (Ex.s))] (·=[.sl (l.map (Ex.s))]):=by
 have loop:∀(aa V:List Fl.Ex),l=V++aa->Rn F X 85 1 [.sl (V.map (Ex.s)++List.replicate aa.length [bD 0,.str [],iD 0,.sl []]),.sl (l.map (Ex.s)),jD l.length,jD V.length] (·=[.sl (l.map (Ex.s))]):=by
  intro aa
  induction aa with
  |nil=>
   intro V hp;rw[xj] at hp;subst hp;rw[show([]:List Fl.Ex).length=0 from Y,List.replicate_zero,xj];exact wr Y<|wn Y ai<|wt Y Y
  |cons a aa ih=>
   intro V hp;have aD:=bG hp;have ao:=cA (f:=Ex.s) hp;have ha:=h a (by rw[hp];simp);have next:=ih (V++[a]) (by rw[hp,bw]);have iZ:(V.map (Ex.s)).length=V.length:=xm _;have bg:aL (.ky 0) (.sl (V.map (Ex.s)++List.replicate (aa.length+1) [bD 0,.str [],iD 0,.sl []])::jD V.length::Ex.s a)=some (.sl ((V++[a]).map (Ex.s)++List.replicate aa.length [bD 0,.str [],iD 0,.sl []])):=by
    rw[<-iZ,Ba DK (by cases a;rfl),DA,List.map_append];rfl
   have ry:aL .jf [.sl (V.map (Ex.s)++List.replicate (aa.length+1) [bD 0,.str [],iD 0,.sl []]),jD V.length]=some (.bool (decide (V.length<l.length))):=qH a0F;rw[xa] at next;rw[show(a::aa).length=aa.length+1 from Y];obtain⟨a1,a2,a3,a4⟩:=a;exact wr Y<|wy Y ai<|wo Y (aA ao Y)<|wg 1 Y<|w9<|wl Y ha rfl<|mS<|wy Y ry<|wo Y bg<|wo Y oA<|wj next
 have g:=loop l [] rfl;exact wr Y<|wo Y (az (xm _))<|wo Y (DY rfl hl a0B)<|wo Y (az (xm _))<|wj g
theorem bz1(hl:l.length<=1000)(h:∀a∈l,Rn F X 91 0 (St.s a) (·=St.s a)):Rn F X 86 0 [.sl (l.map (St.s))] (·=[.sl (l.map (St.s))]):=by
 have loop:∀(aa V:a0p),l=V++aa->Rn F X 86 1 [.sl (V.map (St.s)++List.replicate aa.length [bD 0,.str [],.str [],.sl [],.sl [],.sl []]),.sl (l.map (St.s)),jD l.length,jD V.length] (·=[.sl (l.map (St.s))]):=by
  intro aa
  induction aa with
  |nil=>
   intro V hp;rw[xj] at hp;subst hp;rw[show([]:a0p).length=0 from Y,List.replicate_zero,xj];exact wr Y<|wn Y ai<|wt Y Y
  |cons a aa ih=>
   intro V hp;have aD:=bG hp;have ao:=cA (f:=St.s) hp;have ha:=h a (by rw[hp];simp);have next:=ih (V++[a]) (by rw[hp,bw]);have iZ:(V.map (St.s)).length=V.length:=xm _;have bg:aL (.ky 0) (.sl (V.map (St.s)++List.replicate (aa.length+1) [bD 0,.str [],.str [],.sl [],.sl [],.sl []])::jD V.length::St.s a)=some (.sl ((V++[a]).map (St.s)++List.replicate aa.length [bD 0,.str [],.str [],.sl [],.sl [],.sl []])):=by
    rw[<-iZ,Ba DK (by cases a;rfl),DA,List.map_append];rfl
   have ry:aL .jf [.sl (V.map (St.s)++List.replicate (aa.length+1) [bD 0,.str [],.str [],.sl [],.sl [],.sl []]),jD V.length]=some (.bool (decide (V.length<l.length))):=qH a0F;rw[xa] at next;rw[show(a::aa).length=aa.length+1 from Y];obtain⟨a1,a2,a3,a4,a5,a6⟩:=a;exact wr Y<|wy Y ai<|wo Y (aA ao Y)<|wg 1 Y<|dC<|wl Y ha rfl<|hZ<|wy Y ry<|wo Y bg<|wo Y oA<|wj next
 have g:=loop l [] rfl;exact wr Y<|wo Y (az (xm _))<|wo Y (DY rfl hl a0B)<|wo Y (az (xm _))<|wj g
theorem bz2{l:List Hn}(hl:l.length<=1000)(h:∀a∈l,Rn F X 92 0 (Hn.s a) (·=Hn.s a)):Rn F X 87 0 [.sl (l.map (Hn.s))] (·=[.sl (l.map (Hn.s))]):=by
 have loop:∀(aa V:List Hn),l=V++aa->Rn F X 87 1 [.sl (V.map (Hn.s)++List.replicate aa.length [.str [],.sl [],.sl []]),.sl (l.map (Hn.s)),jD l.length,jD V.length] (·=[.sl (l.map (Hn.s))]):=by
  intro aa
  induction aa with
  |nil=>
   intro V hp;rw[xj] at hp;subst hp;rw[show([]:List Hn).length=0 from Y,List.replicate_zero,xj];exact wr Y<|wn Y ai<|wt Y Y
  |cons a aa ih=>
   intro V hp;have aD:=bG hp;have ao:=cA (f:=Hn.s) hp;have ha:=h a (by rw[hp];simp);have next:=ih (V++[a]) (by rw[hp,bw]);have iZ:(V.map (Hn.s)).length=V.length:=xm _;have bg:aL (.ky 0) (.sl (V.map (Hn.s)++List.replicate (aa.length+1) [.str [],.sl [],.sl []])::jD V.length::Hn.s a)=some (.sl ((V++[a]).map (Hn.s)++List.replicate aa.length [.str [],.sl [],.sl []])):=by
    rw[<-iZ,Ba DK (by cases a;rfl),DA,List.map_append];rfl
   have ry:aL .jf [.sl (V.map (Hn.s)++List.replicate (aa.length+1) [.str [],.sl [],.sl []]),jD V.length]=some (.bool (decide (V.length<l.length))):=qH a0F;rw[xa] at next;rw[show(a::aa).length=aa.length+1 from Y];obtain⟨a1,a2,a3⟩:=a;exact wr Y<|wy Y ai<|wo Y (aA ao Y)<|wg 1 Y<|w8<|wl Y ha rfl<|dC<|wy Y ry<|wo Y bg<|wo Y oA<|wj next
 have g:=loop l [] rfl;exact wr Y<|wo Y (az (xm _))<|wo Y (DY rfl hl a0B)<|wo Y (az (xm _))<|wj g
theorem bz0{l:a0y}(hl:l.length<=1000)(h:∀a∈l,Rn F X 93 0 (vD a) (·=vD a)):Rn F X 88 0 [.sl (l.map (vD))] (·=[.sl (l.map (vD))]):=by
 have loop:∀(aa V:a0y),l=V++aa->Rn F X 88 1 [.sl (V.map (vD)++List.replicate aa.length [.sl []]),.sl (l.map (vD)),jD l.length,jD V.length] (·=[.sl (l.map (vD))]):=by
  intro aa
  induction aa with
  |nil=>
   intro V hp;rw[xj] at hp;subst hp;rw[show([]:a0y).length=0 from Y,List.replicate_zero,xj];exact wr Y<|wn Y ai<|wt Y Y
  |cons a aa ih=>
   intro V hp;have aD:=bG hp;have ao:=cA (f:=vD) hp;have ha:=h a (by rw[hp];simp);have next:=ih (V++[a]) (by rw[hp,bw]);have iZ:(V.map (vD)).length=V.length:=xm _;have bg:aL (.ky 0) (.sl (V.map (vD)++List.replicate (aa.length+1) [.sl []])::jD V.length::vD a)=some (.sl ((V++[a]).map (vD)++List.replicate aa.length [.sl []])):=by
    rw[<-iZ,Ba DK (show([D.sl []]:a0d).length=(vD a).length from Y),DA,List.map_append];rfl
   have ry:aL .jf [.sl (V.map (vD)++List.replicate (aa.length+1) [.sl []]),jD V.length]=some (.bool (decide (V.length<l.length))):=qH a0F;rw[xa] at next;rw[show(a::aa).length=aa.length+1 from Y]
   skip
   exact wr Y<|wy Y ai<|wo Y (aA ao Y)<|wg 1 Y<|w6<|wl Y ha rfl<|w7<|wy Y ry<|wo Y bg<|wo Y oA<|wj next
 have g:=loop l [] rfl;exact wr Y<|wo Y (az (xm _))<|wo Y (DY rfl hl a0B)<|wo Y (az (xm _))<|wj g
theorem bz3{l:List Cm}(hl:l.length<=1000)(h:∀a∈l,Rn F X 94 0 (Cm.s a) (·=Cm.s a)):Rn F X 89 0 [.sl (l.map (Cm.s))] (·=[.sl (l.map (Cm.s))]):=by
 have loop:∀(aa V:List Cm),l=V++aa->Rn F X 89 1 [.sl (V.map (Cm.s)++List.replicate aa.length [.str [],.sl [],.sl []]),.sl (l.map (Cm.s)),jD l.length,jD V.length] (·=[.sl (l.map (Cm.s))]):=by
  intro aa
  induction aa with
  |nil=>
   intro V hp;rw[xj] at hp;subst hp;rw[show([]:List Cm).length=0 from Y,List.replicate_zero,xj];exact wr Y<|wn Y ai<|wt Y Y
  |cons a aa ih=>
   intro V hp;have aD:=bG hp;have ao:=cA (f:=Cm.s) hp;have ha:=h a (by rw[hp];simp);have next:=ih (V++[a]) (by rw[hp,bw]);have iZ:(V.map (Cm.s)).length=V.length:=xm _;have bg:aL (.ky 0) (.sl (V.map (Cm.s)++List.replicate (aa.length+1) [.str [],.sl [],.sl []])::jD V.length::Cm.s a)=some (.sl ((V++[a]).map (Cm.s)++List.replicate aa.length [.str [],.sl [],.sl []])):=by
    rw[<-iZ,Ba DK (by cases a;rfl),DA,List.map_append];rfl
   have ry:aL .jf [.sl (V.map (Cm.s)++List.replicate (aa.length+1) [.str [],.sl [],.sl []]),jD V.length]=some (.bool (decide (V.length<l.length))):=qH a0F;rw[xa] at next;rw[show(a::aa).length=aa.length+1 from Y];obtain⟨a1,a2,a3⟩:=a;exact wr Y<|wy Y ai<|wo Y (aA ao Y)<|wg 1 Y<|w8<|wl Y ha rfl<|dC<|wy Y ry<|wo Y bg<|wo Y oA<|wj next
 have g:=loop l [] rfl;exact wr Y<|wo Y (az (xm _))<|wo Y (DY rfl hl a0B)<|wo Y (az (xm _))<|wj g
theorem bz7(h:jK gV e):Rn F X 90 0 (Ex.s e) (·=Ex.s e):=by
 induction h with
 | @mk op name n args hn ha ih=>
  obtain⟨h1,h2,h3,h4,h5⟩:=hn.get;have ek:args.length<=2:=by rw[h3];unfold jM;split<;>(try split)<;>omega
  have c:=ag1 (X:=X) (l:=args) a0B ih;rw[<-DS] at c;exact wr Y<|wl Y c rfl<|wt Y Y
theorem bo9{l:List Fl.Ex}(hl:l.length<=1000)(h:∀e∈l,jK gV e):Rn F X 85 0 [.sl (Ex.ss l)] (·=[.sl (Ex.ss l)]):=by
 rw[DS];exact ag1 hl (fun a ha=>bz7 (h a ha))
theorem bo8(hl:l.length<=12)(h:∀s∈l,dM jR s):Rn F X 86 0 [.sl (St.ss l)] (·=[.sl (St.ss l)]):=by
 refine dM.list (P:=fun l=>Rn F X 86 0 [.sl (St.ss l)] (·=[.sl (St.ss l)])) ?_ hl h;intro l hl h;rw[Gu];refine bz1 a0B (fun s hs=> ?_);obtain⟨ha,hs⟩:=h s hs;obtain⟨kind,name,cf,bh,th,el⟩:=s;obtain⟨df,cL⟩:=hs;have fX:bh.length<=3:=by have:=ha.ln;omega
 have c:=bo9 (X:=X) (l:=bh) a0B (fun e he=>(ha.ex e he).1);exact wr Y<|wl Y c rfl<|wl Y df rfl<|wl Y cL rfl<|wt Y Y
theorem MQ{es:Nat}{q:a0b}(hq:∀row∈q,row.length=es/\row.all D.cell=true)(hn:q.length<=1000)(hb:bys<=1000):aL (.app es bys) [.sl [],.sl q]=some (.sl q):=by
 have:q.length*bys<=1000*1000:=Nat.mul_le_mul hn hb;have:=Bb (rows:=[]) (bys:=bys) hq a0F a0F;simpa using this
theorem bz6{h:Hn}(hh:C9 h):Rn F X 92 0 h.s (·=h.s):=by
 have c:=bo8 (X:=X) hh.len hh.body;have hp:=hh.params.1;obtain⟨h1,h2,h3⟩:=h;have ha:=MQ (bys:=16) (JG h2) (by rw[lA];simp only at hp;omega) a0B;exact wr Y<|wg 1 Y<|wo Y ha<|wl Y c rfl<|wt Y Y
theorem bz8(hc:Jm c):Rn F X 94 0 c.s (·=c.s):=by
 have cO:∀l∈c.aT,Rn F X 93 0 (vD l) (·=vD l):=by
  intro l hl;have aW:=hc.hs l hl;have cH:=bz2 (X:=X) (l:=l) a0B (fun h hh=>bz6 (aW.2 h hh));show Rn F X 93 0 [D.sl (l.map Hn.s)] (·=[D.sl (l.map Hn.s)]);exact wr Y<|wl Y cH rfl<|wt Y Y
 have cV:Rn F X 88 0 [.sl (ca c.aT)] (·=[.sl (ca c.aT)]):=bz0 (by have:=hc.vs.2;omega) cO;have hv:=hc.vars.1;obtain⟨c1,c2,c3⟩:=c;have ha:=MQ (bys:=32) (es:=3) (q:=c2.map Vr.s) (fun row h=>by obtain⟨v,_,rfl⟩:=xJ.1 h;exact⟨rfl,rfl⟩) (by rw[xm];simp only at hv;omega) a0B;exact wr Y<|wg 1 Y<|wo Y ha<|wl Y cV rfl<|wt Y Y
theorem Ku{f:dg}(hf:uj f):Rn F X 95 0 f.s (·=f.s):=by
 have cC:=bz3 (X:=X) (l:=f.comps) (by have:=hf.comps.2.1;omega) (fun c hc=>bz8 (hf.comps.2.2 c hc));have h1:=hf.flags.1;have h2:=hf.links.1;obtain⟨f1,f2,f3,f4⟩:=f;have a1:=MQ (bys:=24) (es:=2) (q:=f2.map Fg.d) (fun row h=>by obtain⟨v,_,rfl⟩:=xJ.1 h;exact⟨rfl,rfl⟩) (by rw[xm];simp only at h1;omega) a0B;have a2:=MQ (bys:=40) (es:=3) (q:=f3.map Lk.d) (fun row h=>by obtain⟨v,_,rfl⟩:=xJ.1 h;exact⟨rfl,rfl⟩) (by rw[xm];simp only at h2;omega) a0B;exact wr Y<|wg 1 Y<|wo Y a1<|wg 1 Y<|wo Y a2<|w8<|wl Y cC rfl<|wt Y Y
end
structure yq (X:a0a):Prop where
 int:∀n,n<=8->∃s:aq,s.length<=3/\Rn F X 112 0 [iD n,iD 10] (·=[.str s])
 join:∀(l:a0s) (m:Nat),l.length<=3->(∀s∈l,s.length<=m)->m<=100000->∃s:aq,s.length<=3*m+4/\Rn F X 113 0 [.sl (strs l),.str [44,32]] (·=[.str s])
section
theorem aM9{op:Nat}(h1:1<=op)(h2:op<=23):(pB op).length<=5:=by
 refine Y0 h1 h2 (P:=fun op=>(pB op).length<=5) ?_;decide
theorem aX1(op:Nat):HX op<=7:=by
 unfold HX;split<;>(try split)<;>(try split)<;>(try split)<;>(try split)<;>(try split)<;>omega
theorem wH{α:Type}:∀{l:List α},l.length=1->∃a,l=[a]
 |[a],_=>⟨a,rfl⟩
def C8(m:Nat)(o:a0d):Prop:=∃s:aq,o=[.str s]/\s.length<=m
theorem Jx(hn:gV e){k:Int}(hm:m<=100000)(ht:Rn F X 99 0 (Ex.s e) (C8 m)):Rn F X 98 0 (Ex.s e++[.int .i64 k]) (C8 (m+2)):=by
 obtain⟨op,name,n,args⟩:=e;obtain⟨h1,h2,h3,h4,h5⟩:=hn.get;have eu:=yI (X:=X) h1 h2;by_cases q:5<=op/\op<=8
 ·rw[show wF op=true from u_ q] at eu;refine wr Y<|wl Y eu rfl<|d_ Y ai ?_ ?_<;>intro h
  ·refine wg 1 Y<|wx Y ht fun|_,⟨s,rfl,hs⟩=>⟨Y,?_⟩
   exact wo Y (dH a0E)<|mg<|wo Y (dH a0E)<|mS<|wt Y ⟨_,rfl,a0E⟩
  ·refine wg 1 Y<|wx Y ht fun|_,⟨s,rfl,hs⟩=>⟨Y,?_⟩
   exact wt Y ⟨_,rfl,a0E⟩
 ·rw[show wF op=false from f_ q] at eu;refine wr Y<|wl Y eu rfl<|d_ Y ai ?_ ?_<;>intro h
  ·refine wg 1 Y<|wx Y ht fun|_,⟨s,rfl,hs⟩=>⟨Y,?_⟩
   exact wo Y (dH a0E)<|mg<|wo Y (dH a0E)<|mS<|wt Y ⟨_,rfl,a0E⟩
  ·refine wg 1 Y<|wx Y ht fun|_,⟨s,rfl,hs⟩=>⟨Y,?_⟩
   exact wt Y ⟨_,rfl,a0E⟩
theorem aU4(hP:yq X)(h:jK gV e):20*e.sz<=99000->Rn F X 99 0 (Ex.s e) (C8 (20*e.sz)):=by
 induction h with
 | @mk op name n args hn ha ih=>
  intro hl;obtain⟨h1,h2,h3,h4,h5⟩:=hn.get;have eu:=yI (X:=X) h1 h2;have tW:=aM9 h1 h2;have UC:=aX1 op;have lR:name.length<=6:=by
   rcases h5 with⟨_,_,h⟩|⟨_,rfl⟩
   ·exact rU h
   ·exact xL _
  have jA:∀a∈args,gV a:=fun a h=>by
   have:=ha a h;cases this;assumption
  simp only [Ex.sz] at hl⊢;have hc:op=1\/op=2\/op=3\/op=4\/op=5\/op=6\/op=7\/op=8\/op=9\/op=10\/11<=op:=a0B
  rcases hc with rfl|rfl|rfl|rfl|rfl|rfl|rfl|rfl|rfl|rfl|hc
  ·obtain⟨s9,Ae,bK6⟩:=hP.int n a0B;have eu:Rn F X 18 0 [bD 1] (·=[iD 0,.bool false,iD 7,.str (pB 1),.bool true]):=eu;exact wr Y<|wl Y eu rfl<|wg 1 Y<|wl Y bK6 rfl<|wt Y ⟨_,rfl,a0E⟩
  ·have eu:Rn F X 18 0 [bD 2] (·=[iD 0,.bool false,iD 7,.str (pB 2),.bool true]):=eu;exact wr Y<|wl Y eu rfl<|wg 8 Y<|wt Y ⟨_,rfl,a0E⟩
  ·have eu:Rn F X 18 0 [bD 3] (·=[iD 0,.bool false,iD 7,.str (pB 3),.bool true]):=eu;exact wr Y<|wl Y eu rfl<|wg 8 Y<|wt Y ⟨_,rfl,a0E⟩
  ·have eu:Rn F X 18 0 [bD 4] (·=[iD 0,.bool false,iD 7,.str (pB 4),.bool true]):=eu;exact wr Y<|wl Y eu rfl<|wg 8 Y<|wt Y ⟨_,rfl,a0E⟩
  ·have eu:Rn F X 18 0 [bD 5] (·=[iD 0,.bool true,iD 7,.str (pB 5),.bool true]):=eu;exact wr Y<|wl Y eu rfl<|wg 2 Y<|wo Y (dH a0E)<|wt Y ⟨_,rfl,a0E⟩
  ·obtain⟨a,rfl⟩:∃a,args=[a]:=wH (by rw[h3];rfl);have eu:Rn F X 18 0 [bD 6] (·=[iD 1,.bool true,iD 7,.str (pB 6),.bool true]):=eu;simp only [Ex.fT] at hl⊢;have t1:=ih a a0C a0B;obtain⟨o1,n1,i1,a1⟩:=a;refine wr Y<|wl Y eu rfl<|wg 4 Y<|wo Y (dH a0E)<|wo Y (dH a0E)<|wg 1 Y<|mg<|wg 1 Y<|oT<|wg 1 Y<|wx Y t1 fun|_,⟨s,rfl,hs⟩=>⟨Y,?_⟩
   exact wo Y (dH a0E)<|wo Y (dH a0E)<|wt Y ⟨_,rfl,a0E⟩
  ·obtain⟨a,rfl⟩:∃a,args=[a]:=wH (by rw[h3];rfl);have eu:Rn F X 18 0 [bD 7] (·=[iD 1,.bool true,iD 7,.str (pB 7),.bool true]):=eu;simp only [Ex.fT] at hl⊢;have t1:=ih a a0C a0B;obtain⟨o1,n1,i1,a1⟩:=a;refine wr Y<|wl Y eu rfl<|wg 5 Y<|wo Y (dH a0E)<|wo Y (dH a0E)<|wg 1 Y<|mg<|wg 1 Y<|oT<|wg 1 Y<|wx Y t1 fun|_,⟨s,rfl,hs⟩=>⟨Y,?_⟩
   exact wo Y (dH a0E)<|wo Y (dH a0E)<|wt Y ⟨_,rfl,a0E⟩
  ·have eu:Rn F X 18 0 [bD 8] (·=[iD 0,.bool true,iD 7,.str (pB 8),.bool true]):=eu;exact wr Y<|wl Y eu rfl<|wg 3 Y<|wo Y (dH a0E)<|wt Y ⟨_,rfl,a0E⟩
  ·obtain⟨a,rfl⟩:∃a,args=[a]:=wH (by rw[h3];rfl);have eu:Rn F X 18 0 [bD 9] (·=[iD 1,.bool false,iD 6,.str (pB 9),.bool true]):=eu;simp only [Ex.fT] at hl⊢;have t1:=fun k=>Jx (X:=X) (k:=k) (jA a a0C) a0B (ih a a0C a0B)
   obtain⟨o1,n1,i1,a1⟩:=a;refine wr Y<|wl Y eu rfl<|wg 8 Y<|nL<|wg 1 Y<|wx Y (t1 _) fun|_,⟨s,rfl,hs⟩=>⟨Y,?_⟩
   exact wo Y (dH a0E)<|wt Y ⟨_,rfl,a0E⟩
  ·obtain⟨a,rfl⟩:∃a,args=[a]:=wH (by rw[h3];rfl);have eu:Rn F X 18 0 [bD 10] (·=[iD 1,.bool false,iD 6,.str (pB 10),.bool true]):=eu;simp only [Ex.fT] at hl⊢;have t1:=fun k=>Jx (X:=X) (k:=k) (jA a a0C) a0B (ih a a0C a0B)
   obtain⟨o1,n1,i1,a1⟩:=a;refine wr Y<|wl Y eu rfl<|wg 9 Y<|nL<|wg 1 Y<|wx Y (t1 _) fun|_,⟨s,rfl,hs⟩=>⟨Y,?_⟩
   exact wo Y (dH a0E)<|wt Y ⟨_,rfl,a0E⟩
  ·obtain⟨a,b,rfl⟩:∃a b,args=[a,b]:=Mg (by rw[h3];unfold jM;rw[j_ a0B,i_ a0B]);have ek:jM op=2:=h3.symm;rw[ek,show wF op=false from f_ a0B] at eu;simp only [Ex.fT] at hl⊢;have t1:=fun k=>Jx (X:=X) (k:=k) (jA a a0C) a0B (ih a a0C a0B)
   have t2:=fun k=>Jx (X:=X) (k:=k) (jA b a0C) a0B (ih b a0C a0B)
   obtain⟨o1,n1,i1,a1⟩:=a;obtain⟨o2,n2,i2,a2⟩:=b;generalize pB op=tx at*;generalize HX op=lv at*;refine wr Y<|wl Y eu rfl<|wn Y ay<|wn Y ay<|wn Y ay<|wn Y ay<|wn Y ay<|wn Y ay<|wn Y ay<|wn Y ay<|d_ Y ay ?_ ?_<;>intro h
   ·refine wo Y oA<|wg 2 Y<|ei<|wg 2 Y<|mf<|wo Y oA<|wg 1 Y<|wx Y (t1 _) fun|_,⟨s1,rfl,df⟩=>⟨Y,?_⟩
    refine wo Y (dH a0E)<|wg 1 Y<|wx Y (t2 _) fun|_,⟨s2,rfl,cL⟩=>⟨Y,?_⟩
    exact xR<|wo Y (dH a0E)<|wt Y ⟨_,rfl,a0E⟩
   ·refine wg 2 Y<|nL<|wg 2 Y<|gS<|wo Y oA<|wg 1 Y<|wx Y (t1 _) fun|_,⟨s1,rfl,df⟩=>⟨Y,?_⟩
    refine wo Y (dH a0E)<|wg 1 Y<|wx Y (t2 _) fun|_,⟨s2,rfl,cL⟩=>⟨Y,?_⟩
    exact qi<|wo Y (dH a0E)<|wt Y ⟨_,rfl,a0E⟩
end
section
def cZ:a0s->Nat|[]=>0|s::l=>s.length+cZ l
theorem Wt:∀(l:a0s) (s:aq),cZ (l++[s])=cZ l+s.length
 |[],s=>by simp[cZ]
 |a::l,s=>by simp only [c_,cZ,Wt l s];omega
theorem W9:∀(l m:a0s),cZ (l++m)=cZ l+cZ m
 |[],m=>by simp[cZ]
 |a::l,m=>by simp only [c_,cZ,W9 l m];omega
theorem vW{s:a0h}(h:t.length+s.length<=1000000000000):aL (.app 1 1) [.sl (bV t),.str s]=some (.sl (bV (t++s))):=by
 show(if mK ((bV t).length+(s.map fun b=>[D.int .u8 (b.toNat:Nat)]).length) 1 then some (D.sl (bV t++s.map fun b=>[D.int .u8 (b.toNat:Nat)])) else none)=_;rw[i_ (by simp[mK,sF];omega)];simp[bV]
theorem Yk(h:t.length+1<=1000000000000):aL (.app 1 1) [.sl (bV t),.sl [[.int .u8 10]]]=some (.sl (bV (t++[10]))):=by
 have e:=gD (es:=1) (bys:=1) (row:=[D.int .u8 10]) (rows:=bV t) rfl rfl (by rw[sF];omega) (by rw[sF];omega);rw[e];simp[bV]
def WQ(t:a0h)(ind m:Nat)(o:a0d):Prop:=∃t':a0h,o=[.sl (bV t'),jD ind]/\t.length<=t'.length/\t'.length<=t.length+m
theorem JW{ps:a0s}(hp:ps.length<=20)(hi:ind<=60)(hl:t.length+2*ind+cZ ps+1<=1000000000000):Rn F X 100 0 [.sl (bV t),jD ind,.sl (strs ps)] (WQ t ind (2*ind+cZ ps+1)):=by
 have p2:∀(aa V:a0s),ps=V++aa->∀t':a0h,t.length<=t'.length->t'.length<=t.length+2*ind+cZ V->Rn F X 100 2 [.sl (strs ps),jD ps.length,jD V.length,.sl (bV t'),jD ind] (WQ t ind (2*ind+cZ ps+1)):=by
  intro aa
  induction aa with
  |nil=>
   intro V aJ t' h0 h1;rw[xj] at aJ;subst aJ;exact wr Y<|wn Y ai<|wg 2 Y<|wo Y (Yk a0B)<|wt Y ⟨_,rfl,by simp;omega,a0F⟩
  |cons a aa ih=>
   intro V aJ t' h0 h1;have aD:=bG aJ;have ao:(strs ps)[V.length]? =some [.str a]:=cA (f:=fun p:aq=>[D.str p]) aJ;have hs:cZ ps=cZ V+(a.length+cZ aa):=by rw[aJ,W9];rfl
   have next:=ih (V++[a]) (by rw[aJ,bw]) (t'++a) a0F (by rw[Wt];simp;omega);rw[xa] at next;exact wr Y<|wy Y ai<|wo Y (aA ao Y)<|wg 2 Y<|wo Y (vW a0B)<|wg 1 Y<|w9<|wo Y oA<|wj next
 have p1:∀(f k:Nat),k+f=ind->∀t':a0h,t.length<=t'.length->t'.length<=t.length+2*k->Rn F X 100 1 [.sl (strs ps),jD ind,jD k,.sl (bV t')] (WQ t ind (2*ind+cZ ps+1)):=by
  intro f
  induction f with
  |zero=>
   intro k hk t' h0 h1;obtain rfl:k=ind:=a0B
   exact wr Y<|wn Y ai<|wo Y (az (lA _))<|b_ Y (p2 ps [] rfl t' h0 (by simp[cZ];omega))
  |succ f ih=>
   intro k hk t' h0 h1;have next:=ih (k+1) a0B (t'++[32,32]) a0F a0F;exact wr Y<|wy Y ai<|wg 1 Y<|wo Y (vW a0F)<|wo Y oA<|wj next
 have g:=p1 ind 0 a0B t a0B a0B;exact wr Y<|wj g
abbrev BW(X:a0a)(l:a0p):Prop:=∀(t:a0h) (ind:Nat),ind+St.ns l<=40->t.length+20000*St.ns l<=100000000000->Rn F X 103 0 [.sl (bV t),jD ind,.sl (St.ss l)] (WQ t ind (20000*St.ns l))
theorem YU(hb:BW X l){s:aq}(hs:s.length<=3000)(hi:ind+St.ns l<=40)(hl:t.length+20000*St.ns l+10000<=100000000000):Rn F X 101 0 [.sl (bV t),jD ind,.str s,.sl (St.ss l)] (WQ t ind (20000*St.ns l+10000)):=by
 have kJ:=nj l;rcases xI l.length with h0|h0
 ·have c:=JW (X:=X) (ps:=[s,[59]]) (t:=t) (ind:=ind) a0C a0B (by simp[cZ];omega);refine wr Y<|wo Y (az (n:=l.length) (mC _))<|wy Y ay<|wg 2 Y ?_
  (refine wx Y c fun|_,⟨t1,rfl,h1,h2⟩=>⟨Y,?_⟩;simp only [cZ,xi,xd] at h2)
  exact wt Y ⟨t1,rfl,h1,a0B⟩
 ·have c:=JW (X:=X) (ps:=[s,[32,101,108,115,101,32,123]]) (t:=t) (ind:=ind) a0C a0B (by simp[cZ];omega);have c2:=fun(t1:a0h) (h:t1.length+20000*St.ns l<=100000000000)=>hb t1 ind hi h
  have c3:=fun(t1:a0h) (h:t1.length<=100000000000)=>JW (X:=X) (ps:=[[125]]) (t:=t1) (ind:=ind) a0C a0B (by simp[cZ];omega)
  refine wr Y<|wo Y (az (n:=l.length) (mC _))<|wn Y ay<|wg 2 Y ?_
  (have _:=c2;refine wx Y c ?_;rintro _ ⟨t1,rfl,h1,h2⟩;refine⟨rfl,?_⟩;simp only [cZ,xi,xd] at h2)
  refine wg 1 Y<|wx Y (c2 t1 a0B) fun|_,⟨t2,rfl,h3,h4⟩=>⟨Y,?_⟩
  refine oq<|wg 2 Y ?_
  (refine wx Y (c3 t2 a0B) fun|_,⟨t3,rfl,h5,h6⟩=>⟨Y,?_⟩;simp only [cZ,xi,xd] at h6)
  exact wt Y ⟨t3,rfl,a0B,a0B⟩
end
section
theorem Lw{ps:a0s}(hp:ps.length<=20)(hs:cZ ps<=6000)(hi:ind<=60)(ht:t.length<=200000000000):Rn F X 100 0 [.sl (bV t),jD ind,.sl (strs ps)] (WQ t ind 6200):=
 (JW (X:=X) hp hi a0B).mono fun _ ⟨t',e,h1,h2⟩=>⟨t',e,h1,a0B⟩
theorem wq{t':a0h}(h1:t.length<=t'.length)(h2:t'.length<=t.length+m):WQ t ind m [.sl (bV t'),jD ind]:=⟨t',rfl,h1,h2⟩
theorem aJ1(hP:yq X){cf:aq}{th el:a0p}(hs:Ey kind name cf bh th el)(bY:BW X th)(bM:BW X el)(hi:ind<=41)(ua:ind+St.ns th<=40)(fW:ind+St.ns el<=40)(hl:t.length+20000*(1+St.ns th+St.ns el)<=100000000000)
 (h7:kind=7->∀es:a0s,es.length=bh.length->(∀e∈es,e.length<=1260)->Rn F X 102 1 [.sl (strs es),.sl (Ex.ss bh),jD bh.length,jD bh.length,.sl (bV t),jD ind,bD kind,.str name,.str cf,.sl (St.ss th),.sl (St.ss el)] (WQ t ind (20000*(1+St.ns th+St.ns el)))):
 Rn F X 102 0 ([.sl (bV t),jD ind]++St.s ⟨kind,name,cf,bh,th,el⟩) (WQ t ind (20000*(1+St.ns th+St.ns el))):=by
 have fX:bh.length<=3:=by have:=hs.ln;omega
 have lR:name.length<=6:=by
  rcases hs.nm with⟨_,h⟩|⟨_,rfl⟩
  ·exact rU h
  ·exact xL _
 have o5:cf.length<=6:=by
  rcases hs.hn with⟨_,h⟩|⟨_,rfl⟩
  ·exact rU h
  ·exact xL _
 have k1:=hs.k1;have vl:=hs.vl;have UD:=hs.ln;have kJ:=nj el;have fin:∀es:a0s,es.length=bh.length->(∀e∈es,e.length<=1260)->Rn F X 102 1 [.sl (strs es),.sl (Ex.ss bh),jD bh.length,jD bh.length,.sl (bV t),jD ind,bD kind,.str name,.str cf,.sl (St.ss th),.sl (St.ss el)] (WQ t ind (20000*(1+St.ns th+St.ns el))):=by
  intro es dS he;have L:=fun(ps:a0s) (hp:ps.length<=20) (hs:cZ ps<=6000) (t1:a0h) (ht:t1.length<=200000000000)=>Lw (X:=X) (ps:=ps) hp hs (ind:=ind) a0B ht
  have gU:kind=1\/kind=2\/kind=3\/kind=4\/kind=5\/kind=6\/kind=7\/kind=8\/kind=9\/kind=10:=a0B
  rcases gU with rfl|rfl|rfl|rfl|rfl|rfl|rfl|rfl|rfl|rfl
  ·obtain⟨a,rfl⟩:=wH (show es.length=1 by omega);have ha:=he a a0C;refine wr Y<|wn Y ai<|wg 5 Y<|wx Y (L [name,[32,61,32],a,[59]] a0C (by simp only [cZ,xi,xd] at*;omega) t a0B) fun|_,⟨t1,rfl,zM,zL⟩=>⟨Y,?_⟩
   exact wt Y (wq a0B a0B)
  ·obtain⟨a,b,rfl⟩:=Mg (show es.length=2 by omega);have ha:=he a a0C;have hb:=he b a0C;refine wr Y<|wn Y ai<|wg 8 Y<|wx Y (L [name,[91],a,[93,32,61,32],b,[59]] a0C (by simp only [cZ,xi,xd] at*;omega) t a0B) fun|_,⟨t1,rfl,zM,zL⟩=>⟨Y,?_⟩
   exact oT<|wt Y (wq a0B a0B)
  ·obtain⟨a,rfl⟩:=wH (show es.length=1 by omega);have ha:=he a a0C;refine wr Y<|wn Y ai<|wg 7 Y<|wx Y (L [[100,101,108,101,116,101,32],name,[91],a,[93,59]] a0C (by simp only [cZ,xi,xd] at*;omega) t a0B) fun|_,⟨t1,rfl,zM,zL⟩=>⟨Y,?_⟩
   exact wt Y (wq a0B a0B)
  ·obtain⟨a,rfl⟩:=wH (show es.length=1 by omega);have ha:=he a a0C;rcases xI el.length with h0|h0
   ·refine wr Y<|wn Y ai<|wg 8 Y<|wx Y (L [[105,102,32],a,[32,123]] a0C (by simp only [cZ,xi,xd] at*;omega) t a0B) fun|_,⟨t1,rfl,zM,zL⟩=>⟨Y,?_⟩
    refine wg 1 Y<|wx Y (bY t1 ind a0B a0B) fun|_,⟨t2,rfl,aj8,aj7⟩=>⟨Y,?_⟩
    refine hZ<|wo Y (az (mC el))<|wn Y cg<|wg 2 Y<|wx Y (L [[125]] a0C (by simp only [cZ,xi,xd] at*;omega) t2 a0B) fun|_,⟨t5,rfl,aj6,aj5⟩=>⟨Y,?_⟩
    exact wt Y (wq a0B a0B)
   ·refine wr Y<|wn Y ai<|wg 8 Y<|wx Y (L [[105,102,32],a,[32,123]] a0C (by simp only [cZ,xi,xd] at*;omega) t a0B) fun|_,⟨t1,rfl,zM,zL⟩=>⟨Y,?_⟩
    refine wg 1 Y<|wx Y (bY t1 ind a0B a0B) fun|_,⟨t2,rfl,aj8,aj7⟩=>⟨Y,?_⟩
    refine hZ<|wo Y (az (mC el))<|wy Y cg<|wg 2 Y<|wx Y (L [[125,32,101,108,115,101,32,123]] a0C (by simp only [cZ,xi,xd] at*;omega) t2 a0B) fun|_,⟨t3,rfl,cv3,cv2⟩=>⟨Y,?_⟩
    refine wg 1 Y<|wx Y (bM t3 ind a0B a0B) fun|_,⟨t4,rfl,cv1,cv0⟩=>⟨Y,?_⟩
    refine qi<|wg 2 Y<|wx Y (L [[125]] a0C (by simp only [cZ,xi,xd] at*;omega) t4 a0B) fun|_,⟨t5,rfl,aj6,aj5⟩=>⟨Y,?_⟩
    exact wt Y (wq a0B a0B)
  ·obtain⟨a,rfl⟩:=wH (show es.length=1 by omega);have ha:=he a a0C;refine wr Y<|wn Y ai<|wg 9 Y<|wx Y (L [[119,104,105,108,101,32],a,[32,123]] a0C (by simp only [cZ,xi,xd] at*;omega) t a0B) fun|_,⟨t1,rfl,zM,zL⟩=>⟨Y,?_⟩
   refine wg 1 Y<|wx Y (bY t1 ind a0B a0B) fun|_,⟨t2,rfl,aj8,aj7⟩=>⟨Y,?_⟩
   refine hZ<|wg 2 Y<|wx Y (L [[125]] a0C (by simp only [cZ,xi,xd] at*;omega) t2 a0B) fun|_,⟨t5,rfl,aj6,aj5⟩=>⟨Y,?_⟩
   exact wt Y (wq a0B a0B)
  ·obtain⟨s9,Ae,cj⟩:=hP.join es 1260 a0B he a0B;refine wr Y<|wn Y ai<|wg 6 Y<|wl Y cj rfl<|wg 2 Y<|wx Y (L [[115,101,110,100,32],name,[46],cf,[40],s9,[41,59]] a0C (by simp only [cZ,xi,xd] at*;omega) t a0B) fun|_,⟨t1,rfl,zM,zL⟩=>⟨Y,?_⟩
   exact wt Y (wq a0B a0B)
  ·exact h7 rfl es dS he
  ·obtain⟨a,b,rfl⟩:=Mg (show es.length=2 by omega);have ha:=he a a0C;have hb:=he b a0C;refine wr Y<|wn Y ai<|wg 10 Y<|wo Y (dH a0G)<|wo Y (dH a0G)<|wg 2 Y<|ei<|wo Y (dH a0G)<|wg 1 Y<|wx Y (YU bM a0G a0B a0B) fun|_,⟨t1,rfl,CZ,CY⟩=>⟨Y,?_⟩
   exact wt Y (wq a0B a0B)
  ·obtain⟨a,rfl⟩:=wH (show es.length=1 by omega);have ha:=he a a0C;refine wr Y<|wn Y ai<|wg 9 Y<|wo Y (dH a0G)<|wo Y (dH a0G)<|wg 2 Y<|wo Y (dH a0G)<|ei<|wg 1 Y<|wx Y (YU bM a0G a0B a0B) fun|_,⟨t1,rfl,CZ,CY⟩=>⟨Y,?_⟩
   exact wt Y (wq a0B a0B)
  ·obtain rfl:es=[]:=xE.1 a0B;refine wr Y<|wn Y ai<|wg 12 Y<|wx Y (L [[115,116,111,112,59]] a0C (by simp only [cZ,xi,xd] at*;omega) t a0B) fun|_,⟨t1,rfl,zM,zL⟩=>⟨Y,?_⟩
   exact wt Y (wq a0B a0B)
 have loop:∀(aa V:List Fl.Ex),bh=V++aa->∀es:a0s,es.length=V.length->(∀e∈es,e.length<=1260)->Rn F X 102 1 [.sl (strs es++List.replicate aa.length [.str []]),.sl (Ex.ss bh),jD bh.length,jD V.length,.sl (bV t),jD ind,bD kind,.str name,.str cf,.sl (St.ss th),.sl (St.ss el)] (WQ t ind (20000*(1+St.ns th+St.ns el))):=by
  intro aa
  induction aa with
  |nil=>
   intro V aJ es h1 h2;rw[xj] at aJ;rw[show([]:List Fl.Ex).length=0 from Y,List.replicate_zero,xj,<-aJ];exact fin es (by rw[h1,aJ]) h2
  |cons a aa ih=>
   intro V aJ es h1 h2;have aD:=bG aJ;have ao:(Ex.ss bh)[V.length]? =some (Ex.s a):=by rw[aJ];exact qF _ _ _
   have ha:=hs.ex a (by rw[aJ];simp);have aS:=ha.1.M2 ha.2;have ct:=aU4 (X:=X) hP ha.1 a0B;have bg:∀s:aq,aL (.ky 0) [.sl (strs es++List.replicate (aa.length+1) [.str []]),jD V.length,.str s]=some (.sl (strs (es++[s])++List.replicate aa.length [.str []])):=fun s=>by
    have e0:(strs es).length=V.length:=by rw[lA,h1]
    rw[<-e0,Ba (ds:=[.str s]) DK (show([D.str []]:a0d).length=[D.str s].length from Y),DA,Ov]
   have ry:aL .jf [.sl (strs es++List.replicate (aa.length+1) [D.str []]),jD V.length]=some (.bool (decide (V.length<bh.length))):=qH (by simp[lA];omega);have next:=fun(s:aq) (hs:s.length<=1260)=>ih (V++[a]) (by rw[aJ,bw]) (es++[s]) (by simp[h1]) (fun e he=>by
    rcases xF.1 he with he|he
    ·exact h2 e he
    ·rw[xy] at he;subst he;exact hs)
   have e1:(V++[a]).length=V.length+1:=a0C
   rw[e1] at next;rw[show(a::aa).length=aa.length+1 from Y];obtain⟨o1,n1,i1,a1⟩:=a;refine wr Y<|wy Y ai<|wo Y (aA ao Y)<|wg 1 Y<|oT<|wg 1 Y<|wx Y ct fun|_,⟨s,rfl,gd⟩=>⟨Y,?_⟩
   exact wy Y ry<|wo Y (bg s)<|wo Y oA<|b_ Y (next s a0B)
 have g:=loop bh [] rfl [] rfl (fun e h=>by cases h);exact wr Y<|w8<|wo Y (az (gF _))<|wo Y (DY rfl a0B a0B)<|wo Y (az (gF _))<|wj g
end
section
def D6(X:a0a):Prop:=∀(cf:aq) (bh:List Fl.Ex) (es:a0s) (t:a0h) (ind:Nat),1<=bh.length->bh.length<=3->es.length=bh.length->(∀e∈es,e.length<=1260)->cf.length<=6->ind<=41->t.length<=100000000000->
 Rn F X 102 1 [.sl (strs es),.sl (Ex.ss bh),jD bh.length,jD bh.length,.sl (bV t),jD ind,bD 7,.str [],.str cf,.sl [],.sl []] (WQ t ind 20000)
theorem dM.BP{P:St->Prop}{cf:aq}{th el:a0p}(h:dM P ⟨kind,name,cf,bh,th,el⟩):P ⟨kind,name,cf,bh,th,el⟩/\(∀s∈th,dM P s)/\∀s∈el,dM P s:=by
 cases h with
 |mk a b c=>exact⟨a,b,c⟩
theorem aJ3(hP:yq X)(h7:D6 X):∀(m:Nat) (l:a0p),St.ns l<=m->(∀s∈l,dM jR s)->BW X l:=by
 intro m
 induction m with
 |zero=>
  intro l hl h t ind hi ht;have:=nj l;obtain rfl:l=[]:=xE.1 a0B;exact wr Y<|wo Y oA<|wo Y bf<|b_ Y<|wr Y<|wg 1 Y<|wo Y oW<|wt Y ⟨t,rfl,a0B,a0B⟩
 |succ m ih=>
  intro l hl h t ind hi ht;have loop:∀(aa V:a0p),l=V++aa->∀t':a0h,t.length<=t'.length->t'.length<=t.length+20000*St.ns V->Rn F X 103 1 [.sl (St.ss l),jD l.length,jD V.length,.sl (bV t'),jD (ind+1)] (WQ t ind (20000*St.ns l)):=by
   intro aa
   induction aa with
   |nil=>
    intro V aJ t' q1 q2;rw[xj] at aJ;subst aJ;exact wr Y<|wn Y ai<|wo Y oW<|wt Y ⟨t',rfl,a0B,a0B⟩
   |cons a aa cX=>
    intro V aJ t' q1 q2;have aD:=bG aJ;have kJ:=nj l;have ao:(St.ss l)[V.length]? =some (St.s a):=by rw[aJ];exact vV _ _ _
    have lR:St.ns l=St.ns V+(St.n a+St.ns aa):=by rw[aJ,St.wc];rfl
    have next:=cX (V++[a]) (by rw[aJ,bw]);rw[xa,St.wc] at next;have ha:=h a (by rw[aJ];simp);obtain⟨kind,name,cf,bh,th,el⟩:=a;obtain⟨jY,h1,h2⟩:=dM.BP ha;simp only [St.n] at lR;have jY:Ey kind name cf bh th el:=jY;have o5:cf.length<=6:=by
     rcases jY.hn with⟨_,h⟩|⟨_,rfl⟩
     ·exact rU h
     ·exact xL _
    have c1:=aJ1 (X:=X) hP jY (ih th a0B h1) (ih el a0B h2) (t:=t') (ind:=ind+1) a0B a0B a0B a0B (fun hk es bc ij=>by
     subst hk;obtain rfl:name=[]:=by rcases jY.nm with⟨h,_⟩|⟨_,h⟩;omega;exact h
     obtain rfl:th=[]:=by rcases jY.thn with h|h|h;omega;omega;exact h
     obtain rfl:el=[]:=by rcases jY.eln with h|h|h|h;omega;omega;omega;exact h
     have hx:1<=bh.length/\bh.length<=3:=by have:=jY.ln;omega
     exact h7 cf bh es t' (ind+1) hx.1 hx.2 bc ij o5 a0B a0B)
    refine wr Y<|wy Y ai<|wo Y (aA ao Y)<|wg 1 Y<|mg<|wg 1 Y<|wx Y c1 fun|_,⟨t2,rfl,q3,q4⟩=>⟨Y,?_⟩
    exact wo Y oA<|b_ Y (next t2 a0B (by simp only [St.ns,St.n];omega))
  have g:=loop l [] rfl t a0B a0B;exact wr Y<|wo Y oA<|wo Y (az (mC _))<|wj g
theorem av9(hP:yq X)(h7:D6 X){l:List Hn}(hl:l.length<=3)(h:∀x∈l,C9 x)(hi:ind<=20)(ht:t.length<=10000000000):Rn F X 104 0 [.sl (bV t),jD ind,.sl (l.map Hn.s)] (WQ t ind (300000*l.length)):=by
 have loop:∀(aa V:List Hn),l=V++aa->∀t':a0h,t.length<=t'.length->t'.length<=t.length+300000*V.length->Rn F X 104 1 [.sl (l.map Hn.s),jD l.length,jD V.length,.sl (bV t'),jD ind] (WQ t ind (300000*l.length)):=by
  intro aa
  induction aa with
  |nil=>
   intro V aJ t' q1 q2;rw[xj] at aJ;subst aJ;exact wr Y<|wn Y ai<|wt Y ⟨t',rfl,a0B,a0B⟩
  |cons a aa cX=>
   intro V aJ t' q1 q2;have aD:=bG aJ;have ao:=cA (f:=Hn.s) aJ;have next:=cX (V++[a]) (by rw[aJ,bw]);rw[xa] at next;have e1:V.length+[a].length=V.length+1:=rfl;rw[e1] at next;have ha:=h a (by rw[aJ];simp);have No:=rU ha.name;obtain⟨s9,Ae,cj⟩:=hP.join a.params 6 (by have:=ha.params.1;omega) (fun s hs=>rU (ha.params.2 s hs)) a0B;have c1:=aJ3 (X:=X) hP h7 12 a.body ha.n ha.body;have gI:=ha.n;have L:=fun(ps:a0s) (hp:ps.length<=20) (hs:cZ ps<=6000) (t1:a0h) (ht:t1.length<=200000000000)=>Lw (X:=X) (ps:=ps) hp hs (ind:=ind) a0B ht
   obtain⟨n1,n2,n3⟩:=a;simp only at No cj c1 gI;refine wr Y<|wy Y ai<|wo Y (aA ao Y)<|wg 1 Y<|w9<|wl Y cj rfl<|wg 2 Y<|wx Y (L [[111,110,32],n1,[40],s9,[41,32,123]] a0C (by simp only [cZ,xi,xd];omega) t' a0B) fun|_,⟨t1,rfl,CZ,CY⟩=>⟨Y,?_⟩
   refine wg 1 Y<|wx Y (c1 t1 ind a0B a0B) fun|_,⟨t2,rfl,FQ,CX⟩=>⟨Y,?_⟩
   refine ei<|wg 2 Y<|wx Y (L [[125]] a0C (by simp only [cZ,xi,xd];omega) t2 a0B) fun|_,⟨t3,rfl,yi,U6⟩=>⟨Y,?_⟩
   exact wo Y oA<|b_ Y (next t3 a0B a0B)
 have g:=loop l [] rfl t a0B a0B;exact wr Y<|wo Y (az (cq _ _))<|wj g
end
section
abbrev LN(X:a0a)(ind:Nat):Prop:=∀(ps:a0s),ps.length<=20->cZ ps<=6000->∀(t1:a0h),t1.length<=200000000000->Rn F X 100 0 [.sl (bV t1),jD ind,.sl (strs ps)] (WQ t1 ind 6200)
theorem M'(h:ind<=60):LN X ind:=fun ps hp hs t1 ht=>Lw (X:=X) (ps:=ps) hp hs h ht
theorem bJ7:Rn F X 96 0 [] (·=[.str [116,114,117,101]]):=by
 exact wr Y<|wt Y Y
theorem as0:Rn F X 97 0 [] (·=[.str [102,97,108,115,101]]):=by
 exact wr Y<|wt Y Y
theorem aJ2(hP:yq X)(hI:yr X)(h7:D6 X)(hc:Jm c)(ht:t.length<=1000000000):Rn F X 105 0 ([.sl (bV t),jD 1]++c.s) (WQ t 1 3000000):=by
 have L1:LN X 1:=M' a0B;have L2:LN X 2:=M' a0B;have No:=rU hc.name;have Um:=hc.vars.1;have dK:=hc.vs.2;have lF:∀(aa V:a0y),c.aT=V++aa->∀t':a0h,t.length<=t'.length->t'.length<=t.length+40000+1000000*V.length->Rn F X 105 2 [.sl (ca c.aT),jD c.aT.length,jD V.length,.sl (bV t'),jD 2] (WQ t 1 3000000):=by
  intro aa
  induction aa with
  |nil=>
   intro V aJ t' q1 q2;rw[xj] at aJ;have hp':V.length=c.aT.length:=by rw[aJ]
   refine wr Y<|wn Y ai<|wo Y (eW (a:=2) (b:=1) a0B a0B)<|wg 2 Y<|wx Y (L1 [[125]] a0C (by simp only [cZ,xi,xd];omega) t' a0B) fun|_,⟨t3,rfl,yi,U6⟩=>⟨Y,?_⟩
   exact wt Y ⟨t3,rfl,a0B,a0B⟩
  |cons a aa cX=>
   intro V aJ t' q1 q2;have aD:=bG aJ;have ao:(ca c.aT)[V.length]? =some [.sl (a.map Hn.s)]:=cA (f:=fun l:List Hn=>[D.sl (l.map Hn.s)]) aJ;have next:=cX (V++[a]) (by rw[aJ,bw]);rw[xa] at next;have e1:V.length+[a].length=V.length+1:=rfl;rw[e1] at next;have ha:=hc.hs a (by rw[aJ];simp);have UR:=ha.1;have cH:=fun(t1:a0h) (ind:Nat) (hi:ind<=20) (h:t1.length<=10000000000)=>av9 (X:=X) hP h7 ha.1 ha.2 (t:=t1) hi h
   rcases xI V.length with h0|h0
   ·rw[h0] at ao next⊢;refine wr Y<|wy Y ai<|wo Y (aA ao Y)<|wg 1 Y<|w7<|wy Y ay<|wg 1 Y<|wx Y (cH t' 2 a0B a0B) fun|_,⟨t2,rfl,FQ,CX⟩=>⟨Y,?_⟩
    exact wo Y oA<|b_ Y (next t2 a0B a0B)
   ·obtain⟨s9,Ae,ci⟩:=hI.Mj (V.length+1) a0B;refine wr Y<|wy Y ai<|wo Y (aA ao Y)<|wg 1 Y<|w7<|wn Y ay<|wo Y oA<|wl Y ci rfl<|wg 2 Y<|wx Y (L2 [[118,101,114,115,105,111,110,32],s9,[32,123]] a0C (by simp only [cZ,xi,xd];omega) t' a0B) fun|_,⟨t1,rfl,CZ,CY⟩=>⟨Y,?_⟩
    refine mg<|wo Y oA<|wg 1 Y<|wx Y (cH t1 3 a0B a0B) fun|_,⟨t2,rfl,FQ,CX⟩=>⟨Y,?_⟩
    refine wo Y (eW (a:=3) (b:=1) a0B a0B)<|wg 2 Y<|hZ<|wx Y (L2 [[125]] a0C (by simp only [cZ,xi,xd];omega) t2 a0B) fun|_,⟨t3,rfl,yi,U6⟩=>⟨Y,?_⟩
    exact wo Y oA<|b_ Y (next t3 a0B a0B)
 have Hl:∀(aa V:List Vr),c.vars=V++aa->∀t':a0h,t.length<=t'.length->t'.length<=t.length+6200+6200*V.length->Rn F X 105 1 [.sl (c.vars.map Vr.s),jD c.vars.length,jD V.length,.sl (bV t'),jD 2,.str c.name,.sl (ca c.aT)] (WQ t 1 3000000):=by
  intro aa
  induction aa with
  |nil=>
   intro V aJ t' q1 q2;rw[xj] at aJ;have hp':V.length=c.vars.length:=by rw[aJ]
   exact wr Y<|wn Y ai<|wo Y (az (xm _))<|b_ Y (lF c.aT [] rfl t' q1 a0F)
  |cons a aa cX=>
   intro V aJ t' q1 q2;have aD:=bG aJ;have ao:=cA (f:=Vr.s) aJ;have next:=cX (V++[a]) (by rw[aJ,bw]);rw[xa] at next;have e1:V.length+[a].length=V.length+1:=rfl;rw[e1] at next;have ha:=hc.vars.2 a (by rw[aJ];simp);have an6:=rU ha.name;have Ab:=ha.type;obtain⟨a1,a2,a3⟩:=a;simp only at an6 Ab;rcases Ab with⟨rfl,hq⟩|⟨rfl|rfl,rfl⟩
   ·obtain⟨s9,Ae,ci⟩:=hP.int a3 a0B;refine wr Y<|wy Y ai<|wo Y (aA ao Y)<|wg 1 Y<|dC<|wg 1 Y<|wl Y ci rfl<|wg 2 Y<|wx Y (L2 [[118,97,114,32],a1,[58,32,105,110,116,32,61,32],s9,[59]] a0C (by simp only [cZ,xi,xd];omega) t' a0B) fun|_,⟨t1,rfl,CZ,CY⟩=>⟨Y,?_⟩
    exact wo Y oA<|oT<|b_ Y (next t1 a0B a0B)
   ·refine wr Y<|wy Y ai<|wo Y (aA ao Y)<|wg 1 Y<|dC<|wg 3 Y<|wl Y as0 rfl<|wg 2 Y<|wx Y (L2 [[118,97,114,32],a1,[58,32,98,111,111,108,32,61,32],[102,97,108,115,101],[59]] a0C (by simp only [cZ,xi,xd];omega) t' a0B) fun|_,⟨t1,rfl,CZ,CY⟩=>⟨Y,?_⟩
    exact wo Y oA<|oT<|b_ Y (next t1 a0B a0B)
   ·refine wr Y<|wy Y ai<|wo Y (aA ao Y)<|wg 1 Y<|dC<|wg 5 Y<|wx Y (L2 [[118,97,114,32],a1,[58,32,116,97,98,108,101,59]] a0C (by simp only [cZ,xi,xd];omega) t' a0B) fun|_,⟨t1,rfl,CZ,CY⟩=>⟨Y,?_⟩
    exact wo Y oA<|b_ Y (next t1 a0B a0B)
 have g:=Hl c.vars [] rfl;obtain⟨c1,c2,c3⟩:=c;simp only at No;refine wr Y<|w5<|wg 2 Y<|wx Y (L1 [[99,111,109,112,111,110,101,110,116,32],c1,[32,123]] a0C (by simp only [cZ,xi,xd];omega) t a0B) fun|_,⟨t1,rfl,CZ,CY⟩=>⟨Y,?_⟩
 exact wo Y (bm (a:=1) (b:=1) a0B)<|wo Y (az (cq _ _))<|oq<|b_ Y (g t1 a0B a0F)
end
section
theorem aI8(hP:yq X):D6 X:=by
 intro cf bh es t ind h1 h3 dS he o5 hi ht;have L:=fun(ps:a0s) (hp:ps.length<=20) (hs:cZ ps<=6000) (t1:a0h) (ht:t1.length<=200000000000)=>Lw (X:=X) (ps:=ps) hp hs (ind:=ind) a0B ht
 obtain⟨a,r,rfl⟩:∃a r,es=a::r:=by
  cases es with
  |nil=>simp at dS;omega
  |cons a r=>exact⟨a,r,rfl⟩
 have ha:=he a a0C;have ot:r.length<=3:=by simp at dS;omega
 obtain⟨s9,Ae,cj⟩:=hP.join r 1260 ot (fun e h=>he e (by simp[h])) a0B;have gd:aL (.qk 1) [.sl (strs (a::r)),jD 1]=some (.sl (strs r)):=Kh (a:=1) (by simp[lA]) (fun row h=>(JG _ row h).1);refine wr Y<|wn Y ai<|wg 10 Y<|wo Y gd<|wl Y cj rfl<|ei<|wg 2 Y<|wx Y (L [[97,102,116,101,114,32],a,[32,100,111,32],cf,[40],s9,[41,59]] a0C (by simp only [cZ,xi,xd] at*;omega) t a0B) fun|_,⟨t1,rfl,zM,zL⟩=>⟨Y,?_⟩
 exact wt Y ⟨t1,rfl,a0B,by simp only [cZ,xi,xd] at*;omega⟩
end
section
def Sz(o:Option (List D)):Bool:=match o with|some [.bool true]=>true|_=>false
def Ml(o:Option (List D)):Bool:=match o with|some [.str s]=>decide (s.length<=3)|_=>false
theorem aZ3(h:Sz o=true):o=some [.bool true]:=by
 unfold Sz at h;split at h
 ·rfl
 ·cases h
theorem YB(h:Ml o=true):∃s:aq,s.length<=3/\o=some [.str s]:=by
 unfold Ml at h;split at h
 ·exact⟨_,of_decide_eq_true h,rfl⟩
 ·cases h
theorem Rn.Ub{i:Nat}{ds o:a0d}(h:exec F X n i 0 ds=some o):Rn F X i 0 ds (·=o):=⟨o,(AR F X).2 ⟨n,h⟩,rfl⟩
theorem aF3:(GN.all fun s=>Sz (exec F X 30 109 0 [.str s]))=true:=by kernel_rfl
theorem aF6:∀s∈GN,Rn F X 109 0 [.str s] (·=[.bool true]):=fun s hs=>Rn.Ub (aZ3 (List.all_eq_true.1 (aF3 (X:=X)) s hs))
theorem aP0:((List.range 13).all fun n=>Ml (exec F X 9 111 0 [iD n]))=true:=by kernel_rfl
theorem aZ2:yr X:=⟨fun n hn=>by
 obtain⟨s,h1,h2⟩:=YB (List.all_eq_true.1 (aP0 (X:=X)) n (List.mem_range.2 a0B));exact⟨s,h1,Rn.Ub h2⟩⟩
theorem aQ2:((List.range 9).all fun n=>Ml (exec F X 9 112 0 [iD n,iD 10]))=true:=by kernel_rfl
theorem bb0:∀n,n<=8->∃s:aq,s.length<=3/\Rn F X 112 0 [iD n,iD 10] (·=[.str s]):=fun n hn=>by
 obtain⟨s,h1,h2⟩:=YB (List.all_eq_true.1 (aQ2 (X:=X)) n (List.mem_range.2 a0B));exact⟨s,h1,Rn.Ub h2⟩
end
section
theorem XL:∀l:a0h,wh (bV l).flatten=some l
 |[]=>rfl
 |b::l=>by
  show(if b.toNat<256 then(wh (bV l).flatten).map (fun r=>b.toNat.toUInt8::r) else none)=_;rw[i_ b.toNat_lt,XL l];simp
theorem Xp(h:t.length<=1000000000000):aL .Ea [.sl (bV t),jD t.length]=some (.str t):=by
 show(if((t.length:Nat):Int)=((bV t).length:Int)/\(bV t).length<=9223372036854775807 then(wh (bV t).flatten).map D.str else none)=_;rw[i_ ⟨by rw[sF],by rw[sF];omega⟩,XL];rfl
theorem bh2(h:n<=1000000000):aL (.n5 1 1) [jD n,jD n,.int .u8 0]=some (.sl (List.replicate n [.int .u8 0])):=by
 show(if _ then _ else none)=_;rw[i_ ⟨rfl,xk _,by simp[mK];omega⟩]
theorem Xa{l V aa:a0s}{a:aq}(h:l=V++a::aa):(strs l)[V.length]? =some [.str a]:=cA (f:=fun p=>[D.str p]) h
theorem bu1(hm:m<=100000){r:a0s}(hr:r.length<=3)(h:∀s∈r,s.length<=m):∀(aa V:a0s),r=V++aa->∀t:a0h,1<=t.length+aa.length->t.length+(m+2)*aa.length<=1000000->Rn F X 113 2 [.str [44,32],.sl (strs r),jD r.length,jD V.length,.sl (bV t)] (fun o=>∃s:aq,o=[.str s]/\s.length<=t.length+(m+2)*aa.length):=by
 intro aa
 induction aa with
 |nil=>
  intro V hp t h1 h2;rw[xj] at hp;have hp':V.length=r.length:=by rw[hp]
  have h1:1<=t.length:=by simpa using h1
  exact wr Y<|wn Y ai<|wo Y (az (sF _))<|wy Y (qH (k:=0) (sF _))<|wo Y (Xp a0B)<|wt Y ⟨t,rfl,a0C⟩
 |cons a aa ih=>
  intro V hp t h1 h2;have aD:=bG hp;have ao:=Xa hp;have ha:=h a (by rw[hp];simp);have mX:aa.length<=2:=a0B
  have next:=fun(t':a0h)=>ih (V++[a]) (by rw[hp,bw]) t'
  rw[xa,show[a].length=1 from Y] at next;have Vn:=vW (t:=t) (s:=[44,32]) a0F;have l1:(t++[44,32]).length=t.length+2:=a0C
  have ap2:=vW (t:=t++[44,32]) (s:=a) (by rw[l1];omega);have B7:(m+2)*(aa.length+1)=(m+2)*aa.length+(m+2):=Nat.mul_succ _ _;rw[show(a::aa).length=aa.length+1 from Y] at h2⊢;have l2:(t++[44,32]++a).length=t.length+2+a.length:=by rw[xa,l1]
  have nx:=(next (t++[44,32]++a) a0B a0B).mono (Q':=fun o=>∃s:aq,o=[.str s]/\s.length<=t.length+(m+2)*(aa.length+1)) (fun o ⟨s,e1,e2⟩=>⟨s,e1,by rw[l2] at e2;omega⟩);exact wr Y<|wy Y ai<|wo Y (aA ao Y)<|wg 2 Y<|wo Y Vn<|wg 1 Y<|w9<|wg 1 Y<|wo Y ap2<|wg 1 Y<|wo Y oA<|wj nx
theorem aZ1:∀(l:a0s) (m:Nat),l.length<=3->(∀s∈l,s.length<=m)->m<=100000->∃s:aq,s.length<=3*m+4/\Rn F X 113 0 [.sl (strs l),.str [44,32]] (·=[.str s]):=by
 intro l m hl h hm
 match l,hl,h with
 |[],_,_=>
  refine⟨[],xL _,?_⟩;exact wr Y<|wg 2 Y<|wt Y Y
 |[a],_,h=>
  have ha:=h a a0C;refine⟨a,a0B,?_⟩;exact wr Y<|wg 5 Y<|wt Y Y
 |a::b::r,hl,h=>
  have ha:=h a a0C;have hr:(b::r).length<=2:=by simp at hl⊢;omega
  generalize hq:b::r=q at*;have hq1:1<=q.length:=by rw[<-hq];simp
  have j2:=fun(t:a0h) (h1:t.length<=m)=>bu1 (X:=X) hm (r:=q) a0B (fun s hs=>h s (by simp[hs])) q [] rfl t a0B (by
   have:(m+2)*q.length<=(m+2)*2:=Nat.mul_le_mul_left _ hr;omega)
  have key:Rn F X 113 0 [.sl (strs (a::q)),.str [44,32]] (fun o=>∃s:aq,o=[.str s]/\s.length<=3*m+4):=by
   have br7:∀(aa V:a0s),a::q=V++aa->∀n:Nat,2<=n->n<=10+m*V.length->Rn F X 113 1 [.sl (strs (a::q)),.str [44,32],jD n,jD (a::q).length,jD V.length] (fun o=>∃s:aq,o=[.str s]/\s.length<=3*m+4):=by
    intro aa
    induction aa with
    |nil=>
     intro V hp n h1 h2;rw[xj] at hp;have hp':V.length=q.length+1:=by rw[<-hp];rfl
     have hn:n<=10+m*3:=xH h2 (Nat.add_le_add_left (Nat.mul_le_mul_left _ a0B) _);have ao:(strs (a::q))[0]? =some [.str a]:=rfl;have Vn:aL (.app 1 1) [.sl [],.str a]=some (.sl (bV a)):=vW (t:=[]) (s:=a) a0F;have gd:aL (.qk 1) [.sl (strs (a::q)),jD 1]=some (.sl (strs q)):=Kh (a:=1) (by simp[lA]) (fun row h=>(JG _ row h).1);have nx:=(j2 a a0B).mono (Q':=fun o=>∃s:aq,o=[.str s]/\s.length<=3*m+4) (fun o ⟨s,e1,e2⟩=>⟨s,e1,by
      have:(m+2)*q.length<=(m+2)*2:=Nat.mul_le_mul_left _ hr;omega⟩)
     exact wr Y<|Wp.dF Y ai a0F<|wn Y (ai (a:=(n:Int)) (b:=0))<|wy Y (ai (a:=0) (b:=(n:Int)))<|wo Y (bm (a:=0) (b:=n) a0B)<|wo Y (bh2 (n:=0+n) a0B)<|wg 1 Y<|wo Y (aA ao Y)<|w9<|wg 2 Y<|wo Y Vn<|wg 1 Y<|wo Y gd<|mS<|wo Y (az (lA _))<|wj nx
    |cons x aa ih=>
     intro V hp n h1 h2;have aD:=bG hp;have ao:=Xa hp;have hx:=h x (by rw[show a::q=V++x::aa from hp];simp);have iZ:V.length<=2:=by simp at aD;omega
     have hn:n<=10+m*2:=xH h2 (Nat.add_le_add_left (Nat.mul_le_mul_left _ iZ) _);have next:=ih (V++[x]) (by rw[hp,bw]) (n+x.length) a0B (by rw[xa,show[x].length=1 from Y,Nat.mul_add];omega);rw[xa,show[x].length=1 from Y] at next;exact wr Y<|wy Y ai<|wo Y (aA ao Y)<|wg 2 Y<|wo Y (eW (a:=9223372036854775807) (b:=n) a0B a0B)<|w9<|wn Y cg<|wg 1 Y<|wo Y (bm (a:=n) (b:=x.length) a0B)<|wo Y (bm (a:=V.length) (b:=1) a0B)<|wj next
   have e1:(strs (a::q)).length=q.length+1:=by rw[lA];rfl
   have g:=fun n (h1:2<=n) (h2:n<=10)=>br7 (a::q) [] rfl n h1 a0B
   rw[show(a::q).length=q.length+1 from Y] at g;have pO:q.length=1\/q.length=2:=a0B
   rcases pO with e|e
   ·rw[e] at e1 g;exact wr Y<|wo Y (az e1)<|wg 5 Y<|wo Y (az e1)<|w6<|wg 4 Y<|wo Y (az e1)<|oq<|wg 3 Y<|wo Y (az e1)<|nL<|b_ Y (g _ a0I a0I)
   ·rw[e] at e1 g;exact wr Y<|wo Y (az e1)<|wg 5 Y<|wo Y (az e1)<|w6<|wg 4 Y<|wo Y (az e1)<|oq<|wg 3 Y<|wo Y (az e1)<|nL<|b_ Y (g _ a0I a0I)
  obtain⟨o,h1,s,rfl,h2⟩:=key;exact⟨s,h2,_,h1,rfl⟩
theorem xpr:yq X:=⟨bb0,aZ1⟩
end
end Go.Proofs.YthicpeihkkokmaaGreatDoor
