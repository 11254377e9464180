/- What these functions answer. -/
import Derived.Test.YtaginlnifpbfgaaGreatDoorP5
import Derived.KernelRfl
set_option linter.unusedVariables false
set_option linter.unusedSimpArgs false
set_option maxHeartbeats 4000000
set_option maxRecDepth 100000
namespace Go.Proofs.YtaginlnifpbfgaaGreatDoor
open Go.Ex Go.RowKit Go.Fl
section
variable{X:Nat→List D→Option (List D)}{ar:List (List Nat)}{f:bq}{hss:List (List aH)}{i:Nat}{c:Cm}{al:List Nat}
abbrev uG(hss:List (List aH)):List (List D):=hss.map fun l=>[.sl (strs l)]
theorem Oe(l:List aH)(s:aH):strs l++[[.str s]]=strs (l++[s]):=by simp[strs]
theorem tB(l:List aH):(strs l).length=l.length:=xm _
theorem aZ5(hf:iC ar f)(hi:f.comps[i]? =some c)(bt:ar[i]? =some al)(hh:hss.length=ar.length)(pa:∀l∈hss,l.length≤1000)(iL:hss[i]? =some (bl 104 al.length)){p:Cp}(hpf:p.f=f)(vQ:p.hs=hss){code:List (List D)}:Rn F X 79 0 (gC p code++[jD i]) (CQ f hss (bl 104 al.length)):=by
 have FI:=hf.comps i c hi;obtain⟨ints,tables,NM,i1,i3,t1,Ae,Lo,ob,cM,hvl,ji⟩:=FI.rest;rw[bt] at Ae;cases Ae;have yC:=hf.n;have av4:=hf.v8 al (xu bt);have hvn:c.vars.length=ints+1+tables:=by rw[Lo];exact NS _ _
 have bE:=hf.flags.1;have ap:(uG hss)[i]? =some [.sl (strs (bl 104 al.length))]:=by rw[xx,iL];rfl
 have hN:al.length=1∨al.length=2∨al.length=3:=by omega
 obtain⟨pf,rm,own,pv,pt,pfl,params⟩:=p;simp only at hpf vQ;subst hpf;subst vQ;have fin:∀(va ta fa:List aH),va.length≤1000→ta.length≤1000→fa.length≤1000→Rn F X 79 2 [jD i,.sl (c.vars.map Vr.s),jD c.vars.length,jD c.vars.length,.str pf.name,.sl (pf.flags.map Fg.d),.sl (pf.links.map Lk.d),.sl (pf.comps.map Cm.s),.sl (uG rm),.sl (strs va),.sl (strs ta),.sl (strs fa),.sl (strs params),.sl code,.str c.name,.sl (cL c.bx)] (CQ pf rm (bl 104 al.length)):=by
  intro va ta fa q1 q2 q3;have Uv:PO pf rm i ⟨pf,rm,i,va,ta,fa,params⟩:=⟨rfl,rfl,rfl,q1,q2,q3⟩;rcases hN with hN|hN|hN
  ·have g:=cp1 (X:=X) (c:=c) hf hh pa bt i3 t1 hN cM ji c.bx [] rfl _ code Uv [] [] rfl rfl ⟨0,0,[]⟩ false;rw[hN] at ap⊢;exact wr rfl<|wn rfl ak<|wo rfl (aB ap rfl)<|wg 1 rfl<|Wp.Ao rfl rfl rfl<|Wp.Ao rfl rfl rfl<|wo rfl (aA (xm _))<|wj g
  ·have g:=cp0 (X:=X) (c:=c) hf hh pa bt i3 t1 hN cM ji c.bx [] rfl _ code Uv [] [] rfl rfl ⟨0,0,[]⟩ ⟨0,0,[]⟩ false false;rw[hN] at ap⊢;exact wr rfl<|wn rfl ak<|wo rfl (aB ap rfl)<|wg 1 rfl<|Wp.Td rfl rfl rfl<|Wp.Ao rfl rfl rfl<|Wp.Ao rfl rfl rfl<|wo rfl (aA (xm _))<|wj g
  ·have g:=co9 (X:=X) (c:=c) hf hh pa bt i3 t1 hN cM ji c.bx [] rfl _ code Uv [] [] rfl rfl ⟨0,0,[]⟩ ⟨0,0,[]⟩ ⟨0,0,[]⟩ false false false;rw[hN] at ap⊢;exact wr rfl<|wn rfl ak<|wo rfl (aB ap rfl)<|wg 1 rfl<|Wp.Td rfl rfl rfl<|Wp.Td rfl rfl rfl<|Wp.Ao rfl rfl rfl<|Wp.Ao rfl rfl rfl<|wo rfl (aA (xm _))<|wj g
 have kA:∀(ae pre:List Vr),c.vars=pre++ae→∀(va ta fa:List aH),va.length≤pre.length→ta.length≤pre.length→fa.length≤1000→Rn F X 79 2 [jD i,.sl (c.vars.map Vr.s),jD c.vars.length,jD pre.length,.str pf.name,.sl (pf.flags.map Fg.d),.sl (pf.links.map Lk.d),.sl (pf.comps.map Cm.s),.sl (uG rm),.sl (strs va),.sl (strs ta),.sl (strs fa),.sl (strs params),.sl code,.str c.name,.sl (cL c.bx)] (CQ pf rm (bl 104 al.length)):=by
  intro ae
  induction ae with
  |nil=>
   intro pre aE va ta fa q1 q2 q3;rw[xj] at aE;rw[←aE] at q1 q2⊢;exact fin va ta fa (by omega) (by omega) q3
  |cons v ae ih=>
   intro pre aE va ta fa q1 q2 q3;have aC:=bu aE;have Mg:=bR (f:=Vr.s) aE;have next:=ih (pre++[v]) (by rw[aE,bp]);rw[xa] at next;have e1:pre.length+[v].length=pre.length+1:=rfl;rw[e1] at next;obtain⟨v1,v2,v3⟩:=v;have nA:=next (va++[v1]) ta fa (by simp;omega) (by omega) q3;have nB:=next va (ta++[v1]) fa (by omega) (by simp;omega) q3;rw[←Oe] at nA nB;have la:=tB va;have lb:=tB ta;refine wr rfl<|wy rfl ak<|wo rfl (aB Mg rfl)<|wg 1 rfl<|lG<|Wp.bh rfl ay (fun h=> ?_) (fun h=> ?_)
   ·exact wg 2 rfl<|wo rfl oP<|wo rfl oA<|wj nB
   ·exact wg 2 rfl<|wo rfl oP<|wo rfl oA<|wj nA
 have BM:∀(ae pre:List Fg),pf.flags=pre++ae→∀(fa:List aH),fa.length≤pre.length→Rn F X 79 1 [jD i,.sl (pf.flags.map Fg.d),jD pf.flags.length,jD pre.length,.str pf.name,.sl (pf.links.map Lk.d),.sl (pf.comps.map Cm.s),.sl (uG rm),.sl (strs fa),.sl (strs params),.sl code,.str c.name,.sl (c.vars.map Vr.s),.sl (cL c.bx)] (CQ pf rm (bl 104 al.length)):=by
  intro ae
  induction ae with
  |nil=>
   intro pre aE fa q1;rw[xj] at aE;have dj1:pre.length=pf.flags.length:=by rw[aE]
   have g:=kA c.vars [] rfl [] [] fa (by simp) (by simp) (by omega);exact wr rfl<|wn rfl ak<|wo rfl (aA (xm _))<|wj g
  |cons v ae ih=>
   intro pre aE fa q1;have aC:=bu aE;have Mg:=bR (f:=Fg.d) aE;have next:=ih (pre++[v]) (by rw[aE,bp]);rw[xa] at next;have e1:pre.length+[v].length=pre.length+1:=rfl;rw[e1] at next;obtain⟨v1,v2⟩:=v;have nA:=next (fa++[v1]) (by simp;omega);rw[←Oe] at nA;have la:=tB fa;cases v2
   ·exact wr rfl<|wy rfl ak<|wo rfl (aB Mg rfl)<|wg 2 rfl<|gu<|wg 2 rfl<|wo rfl oP<|wo rfl oA<|wj nA
   ·exact wr rfl<|wy rfl ak<|wo rfl (aB Mg rfl)<|wg 1 rfl<|gu<|wg 2 rfl<|wo rfl oP<|wo rfl oA<|wj nA
 have g:=BM pf.flags [] rfl [] (by simp);have cQ4:(pf.comps.map Cm.s)[i]? =some (Cm.s c):=by rw[xx,hi];rfl
 obtain⟨c1,c2,c3⟩:=c;exact wr rfl<|wo rfl (aB cQ4 rfl)<|wg 1 rfl<|oY<|wo rfl (aA (xm _))<|wj g
def Ry(ar:List (List Nat))(rows:List (List D)):Prop:=rows.length=ar.length∧∀(i:Nat) (al:List Nat),ar[i]? =some al→∃us fs:List (List D),rows[i]? =some [D.sl (strs (bl 104 al.length)),D.sl us,D.sl fs]
def S'(ar:List (List Nat))(o:List D):Prop:=∃rows,o=[.ptr [.sl rows] 0,iD 0]∧Ry ar rows
theorem aN0(hX:mV X)(hI:yO X)(hf:iC ar f):Rn F X 84 0 f.s (S' ar):=by
 have k1:=OT hX hf.ok;have k2:=aF6 hX hI hf;have hn:=hf.n
 let H:=fun(l:List (List Nat))=>l.map fun al=>bl 104 al.length
 have hH:∀l,(H l).length=l.length:=fun l=>xm _
 have hHl:∀l∈H ar,l.length≤1000:=fun l hl=>by
  obtain⟨al,ha,rfl⟩:=xJ.1 hl;have:=(hf.v8 al ha).2.1;simp[bl];omega
 have c2:∀(k i:Nat),i+k=f.comps.length→∀(p:Cp) (code rows:List (List D)),p.f=f→p.hs=H ar→rows.length=i→(∀(j:Nat) (al:List Nat),j<i→ar[j]? =some al→∃us fs:List (List D),rows[j]? =some [D.sl (strs (bl 104 al.length)),D.sl us,D.sl fs])→Rn F X 84 2 ([jD f.comps.length,jD i]++gC p code++[.sl rows]) (S' ar):=by
  intro k
  induction k with
  |zero=>
   intro i hi p code rows yB aY eC bK;exact wr rfl<|nj<|wn rfl ak<|wg 1 rfl<|wt rfl ⟨rows,rfl,by omega,fun j al ha=>bK j al (by have:=jW ha;omega) ha⟩
  |succ k ih=>
   intro i hi p code rows yB aY eC bK;have qA:i<f.comps.length:=by omega
   have FF:i<ar.length:=by omega
   have bt:ar[i]? =some ar[i]:=xc FF;have cc:=aZ5 (X:=X) hf (xc qA) bt (hss:=H ar) (hH ar) hHl (by show(ar.map _)[i]? =_;rw[xx,bt];rfl) yB aY (code:=code);have next:=ih (i+1) (by omega);refine wr rfl<|nj<|wy rfl ak<|wg 1 rfl<|wx rfl cc fun|_,⟨us,fs,p2,bm,rfl,hq1,ry⟩=>⟨rfl,?_⟩
   refine oX<|wg 2 rfl<|wo rfl oP<|wo rfl oA<|Wp.jump rfl ?_;refine next p2 bm _ hq1 ry (by simp[eC]) (fun j al hj ha=> ?_);rcases Nat.lt_or_ge j i with bg|ek
   ·obtain⟨uv,fs',h'⟩:=bK j al bg ha;exact⟨uv,fs',by rw[xw (by omega)];exact h'⟩
   ·obtain rfl:j=i:=by omega
    rw[bt] at ha;cases ha;exact⟨us,fs,by rw[xq (by omega),eC,Nat.sub_self];rfl⟩
 have c1:∀(k i:Nat),i+k=f.comps.length→Rn F X 84 1 [.sl (f.comps.map Cm.s),jD f.comps.length,jD i,.str f.name,.sl (f.flags.map Fg.d),.sl (f.links.map Lk.d),.sl (uG (H (ar.take i)))] (S' ar):=by
  intro k
  induction k with
  |zero=>
   intro i hi;have e:ar.take i=ar:=List.take_of_length_le (by omega);rw[e];have g:=c2 f.comps.length 0 (by omega) ⟨f,H ar,0,[],[],[],[]⟩ [] [] rfl rfl rfl (fun j al hj=>by omega);exact wr rfl<|wn rfl ak<|wo rfl (aA (xm _))<|wj g
  |succ k ih=>
   intro i hi;have qA:i<f.comps.length:=by omega
   have FF:i<ar.length:=by omega
   have bt:ar[i]? =some ar[i]:=xc FF;have vX:f.comps[i]? =some f.comps[i]:=xc qA;have cn:=aP9 (X:=X) (hf.comps i _ vX) bt (hf.v8 _ (List.getElem_mem FF)).2.1;have ap:(f.comps.map Cm.s)[i]? =some (Cm.s f.comps[i]):=by rw[xx,vX];rfl
   have next:=ih (i+1) (by omega);have e:uG (H (ar.take (i+1)))=uG (H (ar.take i))++[[.sl (strs (bl 104 ar[i].length))]]:=by
    rw[List.take_add_one,bt];show uG (H (ar.take i++[ar[i]]))=_;simp only [H,uG,List.map_append,List.map_cons,List.map_nil]
   rw[e] at next;have bG:(uG (H (ar.take i))).length=i:=by simp[H,uG];omega
   generalize f.comps[i]=c at ap cn;obtain⟨n1,n2,n3⟩:=c;exact wr rfl<|wy rfl ak<|wo rfl (aB ap rfl)<|wg 1 rfl<|dh<|wl rfl cn rfl<|wg 2 rfl<|wo rfl oP<|wo rfl oA<|dJ<|wj next
 have g:=c1 f.comps.length 0 (by omega);have k1:Rn F X 41 0 [.str f.name,.sl (f.flags.map Fg.d),.sl (f.links.map Lk.d),.sl (f.comps.map Cm.s)] (·=[iD 0]):=k1;have k2:Rn F X 58 0 [.str f.name,.sl (f.flags.map Fg.d),.sl (f.links.map Lk.d),.sl (f.comps.map Cm.s)] (·=[.str [],.str [],iD 0,iD 0]):=k2;show Rn F X 84 0 [.str f.name,.sl (f.flags.map Fg.d),.sl (f.links.map Lk.d),.sl (f.comps.map Cm.s)] _;exact wr rfl<|wl rfl k1 rfl<|wg 1 rfl<|wl rfl k2 rfl<|wg 1 rfl<|wo rfl (aA (ch _ _))<|wj g
end
section
variable{X:Nat→List D→Option (List D)}
theorem DA{n es bys:Nat}{zs:List D}(h:zs.length=es)(hn:n≤1000)(hb:bys≤1000):aU (.gR es bys) (jD n::jD n::zs)=some (.sl (List.replicate n zs)):=by
 show(if _ then _ else none)=_;have:n*bys≤1000*1000:=Nat.mul_le_mul hn hb;rw[if_pos ⟨h,xk _,by simp[jI];omega⟩]
theorem Dy{rows:List (List D)}{i:Nat}{r ds:List D}(hr:rows[i]? =some r)(hl:r.length=ds.length):aU (.fk 0) (.sl rows::jD i::ds)=some (.sl (rows.set i ds)):=by
 show(rows[i]?).bind _=_;rw[hr];show(if 0+ds.length≤r.length then some (D.sl (rows.set i (r.take 0++ds++r.drop (0+ds.length)))) else none)=_;rw[if_pos (by omega),List.drop_of_length_le (by omega)];simp
def vD(l:List Hn):List D:=[D.sl (l.map Hn.s)]
theorem Dg{pre:List (List D)}{a z:List D}{n:Nat}:(pre++List.replicate (n+1) z).set pre.length a=(pre++[a])++List.replicate n z:=by
 rw[List.set_append_right _ _ (xk _),Nat.sub_self,List.replicate_succ,List.set_cons_zero];simp
theorem Dj{pre:List (List D)}{z:List D}{n:Nat}:(pre++List.replicate (n+1) z)[pre.length]? =some z:=by
 rw[xq (xk _),Nat.sub_self,List.replicate_succ];rfl
theorem ab7{l:List Fl.Ex}(hl:l.length≤1000)(h:∀a∈l,Rn F X 90 0 (Ex.s a) (·=Ex.s a)):Rn F X 85 0 [.sl (l.map (Ex.s))] (·=[.sl (l.map (Ex.s))]):=by
 have loop:∀(ae pre:List Fl.Ex),l=pre++ae→Rn F X 85 1 [.sl (pre.map (Ex.s)++List.replicate ae.length [bD 0,.str [],iD 0,.sl []]),.sl (l.map (Ex.s)),jD l.length,jD pre.length] (·=[.sl (l.map (Ex.s))]):=by
  intro ae
  induction ae with
  |nil=>
   intro pre hp;rw[xj] at hp;subst hp;rw[show([]:List Fl.Ex).length=0 from rfl,List.replicate_zero,xj];exact wr rfl<|wn rfl ak<|wt rfl rfl
  |cons a ae ih=>
   intro pre hp;have aC:=bu hp;have ap:=bR (f:=Ex.s) hp;have ha:=h a (by rw[hp];simp);have next:=ih (pre++[a]) (by rw[hp,bp]);have fV:(pre.map (Ex.s)).length=pre.length:=xm _;have aQ:aU (.fk 0) (.sl (pre.map (Ex.s)++List.replicate (ae.length+1) [bD 0,.str [],iD 0,.sl []])::jD pre.length::Ex.s a)=some (.sl ((pre++[a]).map (Ex.s)++List.replicate ae.length [bD 0,.str [],iD 0,.sl []])):=by
    rw[←fV,Dy Dj (by cases a;rfl),Dg,List.map_append];rfl
   have rC:aU .kW [.sl (pre.map (Ex.s)++List.replicate (ae.length+1) [bD 0,.str [],iD 0,.sl []]),jD pre.length]=some (.bool (decide (pre.length<l.length))):=u4 (by simp;omega);rw[xa] at next;rw[show(a::ae).length=ae.length+1 from rfl];obtain⟨a1,a2,a3,a4⟩:=a;exact wr rfl<|wy rfl ak<|wo rfl (aB ap rfl)<|wg 1 rfl<|w9<|wl rfl ha rfl<|mN<|wy rfl rC<|wo rfl aQ<|wo rfl oA<|wj next
 have g:=loop l [] rfl;exact wr rfl<|wo rfl (aA (xm _))<|wo rfl (DA rfl hl (by omega))<|wo rfl (aA (xm _))<|wj g
theorem bV8{l:List St}(hl:l.length≤1000)(h:∀a∈l,Rn F X 91 0 (St.s a) (·=St.s a)):Rn F X 86 0 [.sl (l.map (St.s))] (·=[.sl (l.map (St.s))]):=by
 have loop:∀(ae pre:List St),l=pre++ae→Rn F X 86 1 [.sl (pre.map (St.s)++List.replicate ae.length [bD 0,.str [],.str [],.sl [],.sl [],.sl []]),.sl (l.map (St.s)),jD l.length,jD pre.length] (·=[.sl (l.map (St.s))]):=by
  intro ae
  induction ae with
  |nil=>
   intro pre hp;rw[xj] at hp;subst hp;rw[show([]:List St).length=0 from rfl,List.replicate_zero,xj];exact wr rfl<|wn rfl ak<|wt rfl rfl
  |cons a ae ih=>
   intro pre hp;have aC:=bu hp;have ap:=bR (f:=St.s) hp;have ha:=h a (by rw[hp];simp);have next:=ih (pre++[a]) (by rw[hp,bp]);have fV:(pre.map (St.s)).length=pre.length:=xm _;have aQ:aU (.fk 0) (.sl (pre.map (St.s)++List.replicate (ae.length+1) [bD 0,.str [],.str [],.sl [],.sl [],.sl []])::jD pre.length::St.s a)=some (.sl ((pre++[a]).map (St.s)++List.replicate ae.length [bD 0,.str [],.str [],.sl [],.sl [],.sl []])):=by
    rw[←fV,Dy Dj (by cases a;rfl),Dg,List.map_append];rfl
   have rC:aU .kW [.sl (pre.map (St.s)++List.replicate (ae.length+1) [bD 0,.str [],.str [],.sl [],.sl [],.sl []]),jD pre.length]=some (.bool (decide (pre.length<l.length))):=u4 (by simp;omega);rw[xa] at next;rw[show(a::ae).length=ae.length+1 from rfl];obtain⟨a1,a2,a3,a4,a5,a6⟩:=a;exact wr rfl<|wy rfl ak<|wo rfl (aB ap rfl)<|wg 1 rfl<|dh<|wl rfl ha rfl<|gu<|wy rfl rC<|wo rfl aQ<|wo rfl oA<|wj next
 have g:=loop l [] rfl;exact wr rfl<|wo rfl (aA (xm _))<|wo rfl (DA rfl hl (by omega))<|wo rfl (aA (xm _))<|wj g
theorem bV9{l:List Hn}(hl:l.length≤1000)(h:∀a∈l,Rn F X 92 0 (Hn.s a) (·=Hn.s a)):Rn F X 87 0 [.sl (l.map (Hn.s))] (·=[.sl (l.map (Hn.s))]):=by
 have loop:∀(ae pre:List Hn),l=pre++ae→Rn F X 87 1 [.sl (pre.map (Hn.s)++List.replicate ae.length [.str [],.sl [],.sl []]),.sl (l.map (Hn.s)),jD l.length,jD pre.length] (·=[.sl (l.map (Hn.s))]):=by
  intro ae
  induction ae with
  |nil=>
   intro pre hp;rw[xj] at hp;subst hp;rw[show([]:List Hn).length=0 from rfl,List.replicate_zero,xj];exact wr rfl<|wn rfl ak<|wt rfl rfl
  |cons a ae ih=>
   intro pre hp;have aC:=bu hp;have ap:=bR (f:=Hn.s) hp;have ha:=h a (by rw[hp];simp);have next:=ih (pre++[a]) (by rw[hp,bp]);have fV:(pre.map (Hn.s)).length=pre.length:=xm _;have aQ:aU (.fk 0) (.sl (pre.map (Hn.s)++List.replicate (ae.length+1) [.str [],.sl [],.sl []])::jD pre.length::Hn.s a)=some (.sl ((pre++[a]).map (Hn.s)++List.replicate ae.length [.str [],.sl [],.sl []])):=by
    rw[←fV,Dy Dj (by cases a;rfl),Dg,List.map_append];rfl
   have rC:aU .kW [.sl (pre.map (Hn.s)++List.replicate (ae.length+1) [.str [],.sl [],.sl []]),jD pre.length]=some (.bool (decide (pre.length<l.length))):=u4 (by simp;omega);rw[xa] at next;rw[show(a::ae).length=ae.length+1 from rfl];obtain⟨a1,a2,a3⟩:=a;exact wr rfl<|wy rfl ak<|wo rfl (aB ap rfl)<|wg 1 rfl<|w8<|wl rfl ha rfl<|dh<|wy rfl rC<|wo rfl aQ<|wo rfl oA<|wj next
 have g:=loop l [] rfl;exact wr rfl<|wo rfl (aA (xm _))<|wo rfl (DA rfl hl (by omega))<|wo rfl (aA (xm _))<|wj g
theorem bV7{l:List (List Hn)}(hl:l.length≤1000)(h:∀a∈l,Rn F X 93 0 (vD a) (·=vD a)):Rn F X 88 0 [.sl (l.map (vD))] (·=[.sl (l.map (vD))]):=by
 have loop:∀(ae pre:List (List Hn)),l=pre++ae→Rn F X 88 1 [.sl (pre.map (vD)++List.replicate ae.length [.sl []]),.sl (l.map (vD)),jD l.length,jD pre.length] (·=[.sl (l.map (vD))]):=by
  intro ae
  induction ae with
  |nil=>
   intro pre hp;rw[xj] at hp;subst hp;rw[show([]:List (List Hn)).length=0 from rfl,List.replicate_zero,xj];exact wr rfl<|wn rfl ak<|wt rfl rfl
  |cons a ae ih=>
   intro pre hp;have aC:=bu hp;have ap:=bR (f:=vD) hp;have ha:=h a (by rw[hp];simp);have next:=ih (pre++[a]) (by rw[hp,bp]);have fV:(pre.map (vD)).length=pre.length:=xm _;have aQ:aU (.fk 0) (.sl (pre.map (vD)++List.replicate (ae.length+1) [.sl []])::jD pre.length::vD a)=some (.sl ((pre++[a]).map (vD)++List.replicate ae.length [.sl []])):=by
    rw[←fV,Dy Dj (show([D.sl []]:List D).length=(vD a).length from rfl),Dg,List.map_append];rfl
   have rC:aU .kW [.sl (pre.map (vD)++List.replicate (ae.length+1) [.sl []]),jD pre.length]=some (.bool (decide (pre.length<l.length))):=u4 (by simp;omega);rw[xa] at next;rw[show(a::ae).length=ae.length+1 from rfl]
   skip
   exact wr rfl<|wy rfl ak<|wo rfl (aB ap rfl)<|wg 1 rfl<|w6<|wl rfl ha rfl<|w7<|wy rfl rC<|wo rfl aQ<|wo rfl oA<|wj next
 have g:=loop l [] rfl;exact wr rfl<|wo rfl (aA (xm _))<|wo rfl (DA rfl hl (by omega))<|wo rfl (aA (xm _))<|wj g
theorem bW0{l:List Cm}(hl:l.length≤1000)(h:∀a∈l,Rn F X 94 0 (Cm.s a) (·=Cm.s a)):Rn F X 89 0 [.sl (l.map (Cm.s))] (·=[.sl (l.map (Cm.s))]):=by
 have loop:∀(ae pre:List Cm),l=pre++ae→Rn F X 89 1 [.sl (pre.map (Cm.s)++List.replicate ae.length [.str [],.sl [],.sl []]),.sl (l.map (Cm.s)),jD l.length,jD pre.length] (·=[.sl (l.map (Cm.s))]):=by
  intro ae
  induction ae with
  |nil=>
   intro pre hp;rw[xj] at hp;subst hp;rw[show([]:List Cm).length=0 from rfl,List.replicate_zero,xj];exact wr rfl<|wn rfl ak<|wt rfl rfl
  |cons a ae ih=>
   intro pre hp;have aC:=bu hp;have ap:=bR (f:=Cm.s) hp;have ha:=h a (by rw[hp];simp);have next:=ih (pre++[a]) (by rw[hp,bp]);have fV:(pre.map (Cm.s)).length=pre.length:=xm _;have aQ:aU (.fk 0) (.sl (pre.map (Cm.s)++List.replicate (ae.length+1) [.str [],.sl [],.sl []])::jD pre.length::Cm.s a)=some (.sl ((pre++[a]).map (Cm.s)++List.replicate ae.length [.str [],.sl [],.sl []])):=by
    rw[←fV,Dy Dj (by cases a;rfl),Dg,List.map_append];rfl
   have rC:aU .kW [.sl (pre.map (Cm.s)++List.replicate (ae.length+1) [.str [],.sl [],.sl []]),jD pre.length]=some (.bool (decide (pre.length<l.length))):=u4 (by simp;omega);rw[xa] at next;rw[show(a::ae).length=ae.length+1 from rfl];obtain⟨a1,a2,a3⟩:=a;exact wr rfl<|wy rfl ak<|wo rfl (aB ap rfl)<|wg 1 rfl<|w8<|wl rfl ha rfl<|dh<|wy rfl rC<|wo rfl aQ<|wo rfl oA<|wj next
 have g:=loop l [] rfl;exact wr rfl<|wo rfl (aA (xm _))<|wo rfl (DA rfl hl (by omega))<|wo rfl (aA (xm _))<|wj g
theorem co7{e:Fl.Ex}(h:kN jb e):Rn F X 90 0 (Ex.s e) (·=Ex.s e):=by
 induction h with
 | @mk op name n args hn ha ih=>
  obtain⟨h1,h2,h3,h4,h5⟩:=hn.get;have eE:args.length≤2:=by rw[h3];unfold ku;split<;>(try split)<;>omega
  have c:=ab7 (X:=X) (l:=args) (by omega) ih;rw[←Dq] at c;exact wr rfl<|wl rfl c rfl<|wt rfl rfl
theorem bA2{l:List Fl.Ex}(hl:l.length≤1000)(h:∀e∈l,kN jb e):Rn F X 85 0 [.sl (Ex.ss l)] (·=[.sl (Ex.ss l)]):=by
 rw[Dq];exact ab7 hl (fun a ha=>co7 (h a ha))
theorem bA1{l:List St}(hl:l.length≤12)(h:∀s∈l,hY nE s):Rn F X 86 0 [.sl (St.ss l)] (·=[.sl (St.ss l)]):=by
 refine hY.list (P:=fun l=>Rn F X 86 0 [.sl (St.ss l)] (·=[.sl (St.ss l)])) ?_ hl h;intro l hl h;rw[Gg];refine bV8 (by omega) (fun s hs=> ?_);obtain⟨ha,hs⟩:=h s hs;obtain⟨kind,name,cg,bi,th,el⟩:=s;obtain⟨ej,eK⟩:=hs;have fF:bi.length≤3:=by have:=ha.ln;omega
 have c:=bA2 (X:=X) (l:=bi) (by omega) (fun e he=>(ha.ex e he).1);exact wr rfl<|wl rfl c rfl<|wl rfl ej rfl<|wl rfl eK rfl<|wt rfl rfl
theorem Mu{es bys:Nat}{q:List (List D)}(hq:∀row∈q,row.length=es∧row.all D.cell=true)(hn:q.length≤1000)(hb:bys≤1000):aU (.app es bys) [.sl [],.sl q]=some (.sl q):=by
 have:q.length*bys≤1000*1000:=Nat.mul_le_mul hn hb;have:=GK (rows:=[]) (bys:=bys) hq (by simp;omega) (by simp;omega);simpa using this
theorem co6{h:Hn}(hh:CX h):Rn F X 92 0 h.s (·=h.s):=by
 have c:=bA1 (X:=X) hh.len hh.body;have hp:=hh.params.1;obtain⟨h1,h2,h3⟩:=h;have ha:=Mu (bys:=16) (Jn h2) (by rw[tB];simp only at hp;omega) (by omega);exact wr rfl<|wg 1 rfl<|wo rfl ha<|wl rfl c rfl<|wt rfl rfl
theorem co8{c:Cm}(hc:Ja c):Rn F X 94 0 c.s (·=c.s):=by
 have cO:∀l∈c.bx,Rn F X 93 0 (vD l) (·=vD l):=by
  intro l hl;have bG:=hc.hs l hl;have cH:=bV9 (X:=X) (l:=l) (by omega) (fun h hh=>co6 (bG.2 h hh));show Rn F X 93 0 [D.sl (l.map Hn.s)] (·=[D.sl (l.map Hn.s)]);exact wr rfl<|wl rfl cH rfl<|wt rfl rfl
 have cV:Rn F X 88 0 [.sl (cL c.bx)] (·=[.sl (cL c.bx)]):=bV7 (by have:=hc.vs.2;omega) cO;have hv:=hc.vars.1;obtain⟨c1,c2,c3⟩:=c;have ha:=Mu (bys:=32) (es:=3) (q:=c2.map Vr.s) (fun row h=>by obtain⟨v,_,rfl⟩:=xJ.1 h;exact⟨rfl,rfl⟩) (by rw[xm];simp only at hv;omega) (by omega);exact wr rfl<|wg 1 rfl<|wo rfl ha<|wl rfl cV rfl<|wt rfl rfl
theorem PA{f:bq}(hf:uV f):Rn F X 95 0 f.s (·=f.s):=by
 have cC:=bW0 (X:=X) (l:=f.comps) (by have:=hf.comps.2.1;omega) (fun c hc=>co8 (hf.comps.2.2 c hc));have h1:=hf.flags.1;have h2:=hf.links.1;obtain⟨f1,f2,f3,f4⟩:=f;have a1:=Mu (bys:=24) (es:=2) (q:=f2.map Fg.d) (fun row h=>by obtain⟨v,_,rfl⟩:=xJ.1 h;exact⟨rfl,rfl⟩) (by rw[xm];simp only at h1;omega) (by omega);have a2:=Mu (bys:=40) (es:=3) (q:=f3.map Lk.d) (fun row h=>by obtain⟨v,_,rfl⟩:=xJ.1 h;exact⟨rfl,rfl⟩) (by rw[xm];simp only at h2;omega) (by omega);exact wr rfl<|wg 1 rfl<|wo rfl a1<|wg 1 rfl<|wo rfl a2<|w8<|wl rfl cC rfl<|wt rfl rfl
end
structure yN (X:Nat→List D→Option (List D)):Prop where
 int:∀n,n≤8→∃s:aH,s.length≤3∧Rn F X 112 0 [iD n,iD 10] (·=[.str s])
 join:∀(l:List aH) (m:Nat),l.length≤3→(∀s∈l,s.length≤m)→m≤100000→∃s:aH,s.length≤3*m+4∧Rn F X 113 0 [.sl (strs l),.str [44,32]] (·=[.str s])
section
variable{X:Nat→List D→Option (List D)}
theorem aV8{op:Nat}(h1:1≤op)(h2:op≤23):(pI op).length≤5:=by
 refine W9 h1 h2 (P:=fun op=>(pI op).length≤5) ?_;decide
theorem bd7(op:Nat):HP op≤7:=by
 unfold HP;split<;>(try split)<;>(try split)<;>(try split)<;>(try split)<;>(try split)<;>omega
theorem ya{α:Type}:∀{l:List α},l.length=1→∃a,l=[a]
 |[a],_=>⟨a,rfl⟩
def CW(m:Nat)(o:List D):Prop:=∃s:aH,o=[.str s]∧s.length≤m
theorem Jg{e:Fl.Ex}(hn:jb e){k:Int}{m:Nat}(hm:m≤100000)(ht:Rn F X 99 0 (Ex.s e) (CW m)):Rn F X 98 0 (Ex.s e++[.int .i64 k]) (CW (m+2)):=by
 obtain⟨op,name,n,args⟩:=e;obtain⟨h1,h2,h3,h4,h5⟩:=hn.get;have dM:=yY (X:=X) h1 h2;by_cases q:5≤op∧op≤8
 ·rw[show x8 op=true from decide_eq_true q] at dM;refine wr rfl<|wl rfl dM rfl<|Wp.bh rfl ak (fun h=> ?_) (fun h=> ?_)
  ·refine wg 1 rfl<|wx rfl ht fun|_,⟨s,rfl,hs⟩=>⟨rfl,?_⟩
   exact wo rfl (du (by first|omega|(simp only [xa,xi,xd];omega)))<|lH<|wo rfl (du (by first|omega|(simp only [xa,xi,xd];omega)))<|mN<|wt rfl ⟨_,rfl,by first|omega|(simp only [xa,xi,xd];omega)⟩
  ·refine wg 1 rfl<|wx rfl ht fun|_,⟨s,rfl,hs⟩=>⟨rfl,?_⟩
   exact wt rfl ⟨_,rfl,by first|omega|(simp only [xa,xi,xd];omega)⟩
 ·rw[show x8 op=false from decide_eq_false q] at dM;refine wr rfl<|wl rfl dM rfl<|Wp.bh rfl ak (fun h=> ?_) (fun h=> ?_)
  ·refine wg 1 rfl<|wx rfl ht fun|_,⟨s,rfl,hs⟩=>⟨rfl,?_⟩
   exact wo rfl (du (by first|omega|(simp only [xa,xi,xd];omega)))<|lH<|wo rfl (du (by first|omega|(simp only [xa,xi,xd];omega)))<|mN<|wt rfl ⟨_,rfl,by first|omega|(simp only [xa,xi,xd];omega)⟩
  ·refine wg 1 rfl<|wx rfl ht fun|_,⟨s,rfl,hs⟩=>⟨rfl,?_⟩
   exact wt rfl ⟨_,rfl,by first|omega|(simp only [xa,xi,xd];omega)⟩
theorem bc0(hP:yN X){e:Fl.Ex}(h:kN jb e):20*e.sz≤99000→Rn F X 99 0 (Ex.s e) (CW (20*e.sz)):=by
 induction h with
 | @mk op name n args hn ha ih=>
  intro hl;obtain⟨h1,h2,h3,h4,h5⟩:=hn.get;have dM:=yY (X:=X) h1 h2;have uC:=aV8 h1 h2;have T1:=bd7 op;have kv:name.length≤6:=by
   rcases h5 with⟨_,_,h⟩|⟨_,rfl⟩
   ·exact rO h
   ·exact xL _
  have gX:∀a∈args,jb a:=fun a h=>by
   have:=ha a h;cases this;assumption
  simp only [Ex.sz] at hl⊢;have hc:op=1∨op=2∨op=3∨op=4∨op=5∨op=6∨op=7∨op=8∨op=9∨op=10∨11≤op:=by omega
  rcases hc with rfl|rfl|rfl|rfl|rfl|rfl|rfl|rfl|rfl|rfl|hc
  ·obtain⟨s9,AB,cT4⟩:=hP.int n (by omega);have dM:Rn F X 18 0 [bD 1] (·=[iD 0,.bool false,iD 7,.str (pI 1),.bool true]):=dM;exact wr rfl<|wl rfl dM rfl<|wg 1 rfl<|wl rfl cT4 rfl<|wt rfl ⟨_,rfl,by first|omega|(simp only [xa,xi,xd];omega)⟩
  ·have dM:Rn F X 18 0 [bD 2] (·=[iD 0,.bool false,iD 7,.str (pI 2),.bool true]):=dM;exact wr rfl<|wl rfl dM rfl<|wg 8 rfl<|wt rfl ⟨_,rfl,by first|omega|(simp only [xa,xi,xd];omega)⟩
  ·have dM:Rn F X 18 0 [bD 3] (·=[iD 0,.bool false,iD 7,.str (pI 3),.bool true]):=dM;exact wr rfl<|wl rfl dM rfl<|wg 8 rfl<|wt rfl ⟨_,rfl,by first|omega|(simp only [xa,xi,xd];omega)⟩
  ·have dM:Rn F X 18 0 [bD 4] (·=[iD 0,.bool false,iD 7,.str (pI 4),.bool true]):=dM;exact wr rfl<|wl rfl dM rfl<|wg 8 rfl<|wt rfl ⟨_,rfl,by first|omega|(simp only [xa,xi,xd];omega)⟩
  ·have dM:Rn F X 18 0 [bD 5] (·=[iD 0,.bool true,iD 7,.str (pI 5),.bool true]):=dM;exact wr rfl<|wl rfl dM rfl<|wg 2 rfl<|wo rfl (du (by first|omega|(simp only [xa,xi,xd];omega)))<|wt rfl ⟨_,rfl,by first|omega|(simp only [xa,xi,xd];omega)⟩
  ·obtain⟨a,rfl⟩:∃a,args=[a]:=ya (by rw[h3];rfl);have dM:Rn F X 18 0 [bD 6] (·=[iD 1,.bool true,iD 7,.str (pI 6),.bool true]):=dM;simp only [Ex.jh] at hl⊢;have t1:=ih a (by simp) (by omega);obtain⟨o1,n1,i1,a1⟩:=a;refine wr rfl<|wl rfl dM rfl<|wg 4 rfl<|wo rfl (du (by first|omega|(simp only [xa,xi,xd];omega)))<|wo rfl (du (by first|omega|(simp only [xa,xi,xd];omega)))<|wg 1 rfl<|lH<|wg 1 rfl<|oY<|wg 1 rfl<|wx rfl t1 fun|_,⟨s,rfl,hs⟩=>⟨rfl,?_⟩
   exact wo rfl (du (by first|omega|(simp only [xa,xi,xd];omega)))<|wo rfl (du (by first|omega|(simp only [xa,xi,xd];omega)))<|wt rfl ⟨_,rfl,by first|omega|(simp only [xa,xi,xd];omega)⟩
  ·obtain⟨a,rfl⟩:∃a,args=[a]:=ya (by rw[h3];rfl);have dM:Rn F X 18 0 [bD 7] (·=[iD 1,.bool true,iD 7,.str (pI 7),.bool true]):=dM;simp only [Ex.jh] at hl⊢;have t1:=ih a (by simp) (by omega);obtain⟨o1,n1,i1,a1⟩:=a;refine wr rfl<|wl rfl dM rfl<|wg 5 rfl<|wo rfl (du (by first|omega|(simp only [xa,xi,xd];omega)))<|wo rfl (du (by first|omega|(simp only [xa,xi,xd];omega)))<|wg 1 rfl<|lH<|wg 1 rfl<|oY<|wg 1 rfl<|wx rfl t1 fun|_,⟨s,rfl,hs⟩=>⟨rfl,?_⟩
   exact wo rfl (du (by first|omega|(simp only [xa,xi,xd];omega)))<|wo rfl (du (by first|omega|(simp only [xa,xi,xd];omega)))<|wt rfl ⟨_,rfl,by first|omega|(simp only [xa,xi,xd];omega)⟩
  ·have dM:Rn F X 18 0 [bD 8] (·=[iD 0,.bool true,iD 7,.str (pI 8),.bool true]):=dM;exact wr rfl<|wl rfl dM rfl<|wg 3 rfl<|wo rfl (du (by first|omega|(simp only [xa,xi,xd];omega)))<|wt rfl ⟨_,rfl,by first|omega|(simp only [xa,xi,xd];omega)⟩
  ·obtain⟨a,rfl⟩:∃a,args=[a]:=ya (by rw[h3];rfl);have dM:Rn F X 18 0 [bD 9] (·=[iD 1,.bool false,iD 6,.str (pI 9),.bool true]):=dM;simp only [Ex.jh] at hl⊢;have t1:=fun k=>Jg (X:=X) (k:=k) (gX a (by simp)) (by omega) (ih a (by simp) (by omega))
   obtain⟨o1,n1,i1,a1⟩:=a;refine wr rfl<|wl rfl dM rfl<|wg 8 rfl<|nj<|wg 1 rfl<|wx rfl (t1 _) fun|_,⟨s,rfl,hs⟩=>⟨rfl,?_⟩
   exact wo rfl (du (by first|omega|(simp only [xa,xi,xd];omega)))<|wt rfl ⟨_,rfl,by first|omega|(simp only [xa,xi,xd];omega)⟩
  ·obtain⟨a,rfl⟩:∃a,args=[a]:=ya (by rw[h3];rfl);have dM:Rn F X 18 0 [bD 10] (·=[iD 1,.bool false,iD 6,.str (pI 10),.bool true]):=dM;simp only [Ex.jh] at hl⊢;have t1:=fun k=>Jg (X:=X) (k:=k) (gX a (by simp)) (by omega) (ih a (by simp) (by omega))
   obtain⟨o1,n1,i1,a1⟩:=a;refine wr rfl<|wl rfl dM rfl<|wg 9 rfl<|nj<|wg 1 rfl<|wx rfl (t1 _) fun|_,⟨s,rfl,hs⟩=>⟨rfl,?_⟩
   exact wo rfl (du (by first|omega|(simp only [xa,xi,xd];omega)))<|wt rfl ⟨_,rfl,by first|omega|(simp only [xa,xi,xd];omega)⟩
  ·obtain⟨a,b,rfl⟩:∃a b,args=[a,b]:=LU (by rw[h3];unfold ku;rw[if_neg (by omega),if_pos (by omega)]);have eE:ku op=2:=h3.symm;rw[eE,show x8 op=false from decide_eq_false (by omega)] at dM;simp only [Ex.jh] at hl⊢;have t1:=fun k=>Jg (X:=X) (k:=k) (gX a (by simp)) (by omega) (ih a (by simp) (by omega))
   have t2:=fun k=>Jg (X:=X) (k:=k) (gX b (by simp)) (by omega) (ih b (by simp) (by omega))
   obtain⟨o1,n1,i1,a1⟩:=a;obtain⟨o2,n2,i2,a2⟩:=b;generalize pI op=tx at*;generalize HP op=lv at*;refine wr rfl<|wl rfl dM rfl<|wn rfl ay<|wn rfl ay<|wn rfl ay<|wn rfl ay<|wn rfl ay<|wn rfl ay<|wn rfl ay<|wn rfl ay<|Wp.bh rfl ay (fun h=> ?_) (fun h=> ?_)
   ·refine wo rfl oA<|wg 2 rfl<|dJ<|wg 2 rfl<|lG<|wo rfl oA<|wg 1 rfl<|wx rfl (t1 _) fun|_,⟨s1,rfl,ej⟩=>⟨rfl,?_⟩
    refine wo rfl (du (by first|omega|(simp only [xa,xi,xd];omega)))<|wg 1 rfl<|wx rfl (t2 _) fun|_,⟨s2,rfl,eK⟩=>⟨rfl,?_⟩
    exact yr<|wo rfl (du (by first|omega|(simp only [xa,xi,xd];omega)))<|wt rfl ⟨_,rfl,by first|omega|(simp only [xa,xi,xd];omega)⟩
   ·refine wg 2 rfl<|nj<|wg 2 rfl<|fZ<|wo rfl oA<|wg 1 rfl<|wx rfl (t1 _) fun|_,⟨s1,rfl,ej⟩=>⟨rfl,?_⟩
    refine wo rfl (du (by first|omega|(simp only [xa,xi,xd];omega)))<|wg 1 rfl<|wx rfl (t2 _) fun|_,⟨s2,rfl,eK⟩=>⟨rfl,?_⟩
    exact qp<|wo rfl (du (by first|omega|(simp only [xa,xi,xd];omega)))<|wt rfl ⟨_,rfl,by first|omega|(simp only [xa,xi,xd];omega)⟩
end
section
variable{X:Nat→List D→Option (List D)}
def cX:List aH→Nat|[]=>0|s::l=>s.length+cX l
theorem Vj:∀(l:List aH) (s:aH),cX (l++[s])=cX l+s.length
 |[],s=>by simp[cX]
 |a::l,s=>by simp only [List.cons_append,cX,Vj l s];omega
theorem VJ:∀(l m:List aH),cX (l++m)=cX l+cX m
 |[],m=>by simp[cX]
 |a::l,m=>by simp only [List.cons_append,cX,VJ l m];omega
theorem wu{t s:List UInt8}(h:t.length+s.length≤1000000000000):aU (.app 1 1) [.sl (bX t),.str s]=some (.sl (bX (t++s))):=by
 show(if jI ((bX t).length+(s.map fun b=>[D.int .u8 (b.toNat:Nat)]).length) 1 then some (D.sl (bX t++s.map fun b=>[D.int .u8 (b.toNat:Nat)])) else none)=_;rw[if_pos (by simp[jI,tu];omega)];simp[bX]
theorem WG{t:List UInt8}(h:t.length+1≤1000000000000):aU (.app 1 1) [.sl (bX t),.sl [[.int .u8 10]]]=some (.sl (bX (t++[10]))):=by
 have e:=gO (es:=1) (bys:=1) (row:=[D.int .u8 10]) (rows:=bX t) rfl rfl (by rw[tu];omega) (by rw[tu];omega);rw[e];simp[bX]
def WQ(t:List UInt8)(ind m:Nat)(o:List D):Prop:=∃t':List UInt8,o=[.sl (bX t'),jD ind]∧t.length≤t'.length∧t'.length≤t.length+m
theorem JA{ps:List aH}(hp:ps.length≤20){t:List UInt8}{ind:Nat}(hi:ind≤60)(hl:t.length+2*ind+cX ps+1≤1000000000000):Rn F X 100 0 [.sl (bX t),jD ind,.sl (strs ps)] (WQ t ind (2*ind+cX ps+1)):=by
 have p2:∀(ae pre:List aH),ps=pre++ae→∀t':List UInt8,t.length≤t'.length→t'.length≤t.length+2*ind+cX pre→Rn F X 100 2 [.sl (strs ps),jD ps.length,jD pre.length,.sl (bX t'),jD ind] (WQ t ind (2*ind+cX ps+1)):=by
  intro ae
  induction ae with
  |nil=>
   intro pre aE t' h0 h1;rw[xj] at aE;subst aE;exact wr rfl<|wn rfl ak<|wg 2 rfl<|wo rfl (WG (by omega))<|wt rfl ⟨_,rfl,by simp;omega,by simp;omega⟩
  |cons a ae ih=>
   intro pre aE t' h0 h1;have aC:=bu aE;have ap:(strs ps)[pre.length]? =some [.str a]:=bR (f:=fun p:aH=>[D.str p]) aE;have hs:cX ps=cX pre+(a.length+cX ae):=by rw[aE,VJ];rfl
   have next:=ih (pre++[a]) (by rw[aE,bp]) (t'++a) (by simp;omega) (by rw[Vj];simp;omega);rw[xa] at next;exact wr rfl<|wy rfl ak<|wo rfl (aB ap rfl)<|wg 2 rfl<|wo rfl (wu (by omega))<|wg 1 rfl<|w9<|wo rfl oA<|wj next
 have p1:∀(f k:Nat),k+f=ind→∀t':List UInt8,t.length≤t'.length→t'.length≤t.length+2*k→Rn F X 100 1 [.sl (strs ps),jD ind,jD k,.sl (bX t')] (WQ t ind (2*ind+cX ps+1)):=by
  intro f
  induction f with
  |zero=>
   intro k hk t' h0 h1;obtain rfl:k=ind:=by omega
   exact wr rfl<|wn rfl ak<|wo rfl (aA (tB _))<|Wp.jump rfl (p2 ps [] rfl t' h0 (by simp[cX];omega))
  |succ f ih=>
   intro k hk t' h0 h1;have next:=ih (k+1) (by omega) (t'++[32,32]) (by simp;omega) (by simp;omega);exact wr rfl<|wy rfl ak<|wg 1 rfl<|wo rfl (wu (by simp;omega))<|wo rfl oA<|wj next
 have g:=p1 ind 0 (by omega) t (by omega) (by omega);exact wr rfl<|wj g
abbrev BW(X:Nat→List D→Option (List D))(l:List St):Prop:=∀(t:List UInt8) (ind:Nat),ind+St.ns l≤40→t.length+20000*St.ns l≤100000000000→Rn F X 103 0 [.sl (bX t),jD ind,.sl (St.ss l)] (WQ t ind (20000*St.ns l))
theorem W6{l:List St}(hb:BW X l){s:aH}(hs:s.length≤3000){t:List UInt8}{ind:Nat}(hi:ind+St.ns l≤40)(hl:t.length+20000*St.ns l+10000≤100000000000):Rn F X 101 0 [.sl (bX t),jD ind,.str s,.sl (St.ss l)] (WQ t ind (20000*St.ns l+10000)):=by
 have lW:=ot l;rcases xI l.length with h0|h0
 ·have c:=JA (X:=X) (ps:=[s,[59]]) (t:=t) (ind:=ind) (by simp) (by omega) (by simp[cX];omega);refine wr rfl<|wo rfl (aA (n:=l.length) (mY _))<|wy rfl ay<|wg 2 rfl ?_
  (refine wx rfl c fun|_,⟨t1,rfl,h1,h2⟩=>⟨rfl,?_⟩;simp only [cX,xi,xd] at h2)
  exact wt rfl ⟨t1,rfl,h1,by omega⟩
 ·have c:=JA (X:=X) (ps:=[s,[32,101,108,115,101,32,123]]) (t:=t) (ind:=ind) (by simp) (by omega) (by simp[cX];omega);have c2:=fun(t1:List UInt8) (h:t1.length+20000*St.ns l≤100000000000)=>hb t1 ind hi h
  have c3:=fun(t1:List UInt8) (h:t1.length≤100000000000)=>JA (X:=X) (ps:=[[125]]) (t:=t1) (ind:=ind) (by simp) (by omega) (by simp[cX];omega)
  refine wr rfl<|wo rfl (aA (n:=l.length) (mY _))<|wn rfl ay<|wg 2 rfl ?_
  (have _:=c2;refine wx rfl c ?_;rintro _ ⟨t1,rfl,h1,h2⟩;refine⟨rfl,?_⟩;simp only [cX,xi,xd] at h2)
  refine wg 1 rfl<|wx rfl (c2 t1 (by omega)) fun|_,⟨t2,rfl,h3,h4⟩=>⟨rfl,?_⟩
  refine n7<|wg 2 rfl ?_
  (refine wx rfl (c3 t2 (by omega)) fun|_,⟨t3,rfl,h5,h6⟩=>⟨rfl,?_⟩;simp only [cX,xi,xd] at h6)
  exact wt rfl ⟨t3,rfl,by omega,by omega⟩
end
section
variable{X:Nat→List D→Option (List D)}
theorem KV{ps:List aH}(hp:ps.length≤20)(hs:cX ps≤6000){t:List UInt8}{ind:Nat}(hi:ind≤60)(ht:t.length≤200000000000):Rn F X 100 0 [.sl (bX t),jD ind,.sl (strs ps)] (WQ t ind 6200):=
 (JA (X:=X) hp hi (by omega)).mono fun _ ⟨t',e,h1,h2⟩=>⟨t',e,h1,by omega⟩
theorem wq{t t':List UInt8}{ind m:Nat}(h1:t.length≤t'.length)(h2:t'.length≤t.length+m):WQ t ind m [.sl (bX t'),jD ind]:=⟨t',rfl,h1,h2⟩
theorem aS6(hP:yN X){kind:Nat}{name cg:aH}{bi:List Fl.Ex}{th el:List St}(hs:Rx kind name cg bi th el)(cN:BW X th)(cx:BW X el){t:List UInt8}{ind:Nat}(hi:ind≤41)(uK:ind+St.ns th≤40)(eI:ind+St.ns el≤40)(hl:t.length+20000*(1+St.ns th+St.ns el)≤100000000000)
 (h7:kind=7→∀es:List aH,es.length=bi.length→(∀e∈es,e.length≤1260)→Rn F X 102 1 [.sl (strs es),.sl (Ex.ss bi),jD bi.length,jD bi.length,.sl (bX t),jD ind,bD kind,.str name,.str cg,.sl (St.ss th),.sl (St.ss el)] (WQ t ind (20000*(1+St.ns th+St.ns el)))):
 Rn F X 102 0 ([.sl (bX t),jD ind]++St.s ⟨kind,name,cg,bi,th,el⟩) (WQ t ind (20000*(1+St.ns th+St.ns el))):=by
 have fF:bi.length≤3:=by have:=hs.ln;omega
 have kv:name.length≤6:=by
  rcases hs.nm with⟨_,h⟩|⟨_,rfl⟩
  ·exact rO h
  ·exact xL _
 have pa:cg.length≤6:=by
  rcases hs.hn with⟨_,h⟩|⟨_,rfl⟩
  ·exact rO h
  ·exact xL _
 have k1:=hs.k1;have yy:=hs.yy;have T2:=hs.ln;have lW:=ot el;have fin:∀es:List aH,es.length=bi.length→(∀e∈es,e.length≤1260)→Rn F X 102 1 [.sl (strs es),.sl (Ex.ss bi),jD bi.length,jD bi.length,.sl (bX t),jD ind,bD kind,.str name,.str cg,.sl (St.ss th),.sl (St.ss el)] (WQ t ind (20000*(1+St.ns th+St.ns el))):=by
  intro es cz he;have L:=fun(ps:List aH) (hp:ps.length≤20) (hs:cX ps≤6000) (t1:List UInt8) (ht:t1.length≤200000000000)=>KV (X:=X) (ps:=ps) hp hs (ind:=ind) (by omega) ht
  have jy:kind=1∨kind=2∨kind=3∨kind=4∨kind=5∨kind=6∨kind=7∨kind=8∨kind=9∨kind=10:=by omega
  rcases jy with rfl|rfl|rfl|rfl|rfl|rfl|rfl|rfl|rfl|rfl
  ·obtain⟨a,rfl⟩:=ya (show es.length=1 by omega);have ha:=he a (by simp);refine wr rfl<|wn rfl ak<|wg 5 rfl<|wx rfl (L [name,[32,61,32],a,[59]] (by simp) (by simp only [cX,xi,xd] at*;omega) t (by omega)) fun|_,⟨t1,rfl,Aa,z9⟩=>⟨rfl,?_⟩
   exact wt rfl (wq (by omega) (by omega))
  ·obtain⟨a,b,rfl⟩:=LU (show es.length=2 by omega);have ha:=he a (by simp);have hb:=he b (by simp);refine wr rfl<|wn rfl ak<|wg 8 rfl<|wx rfl (L [name,[91],a,[93,32,61,32],b,[59]] (by simp) (by simp only [cX,xi,xd] at*;omega) t (by omega)) fun|_,⟨t1,rfl,Aa,z9⟩=>⟨rfl,?_⟩
   exact oY<|wt rfl (wq (by omega) (by omega))
  ·obtain⟨a,rfl⟩:=ya (show es.length=1 by omega);have ha:=he a (by simp);refine wr rfl<|wn rfl ak<|wg 7 rfl<|wx rfl (L [[100,101,108,101,116,101,32],name,[91],a,[93,59]] (by simp) (by simp only [cX,xi,xd] at*;omega) t (by omega)) fun|_,⟨t1,rfl,Aa,z9⟩=>⟨rfl,?_⟩
   exact wt rfl (wq (by omega) (by omega))
  ·obtain⟨a,rfl⟩:=ya (show es.length=1 by omega);have ha:=he a (by simp);rcases xI el.length with h0|h0
   ·refine wr rfl<|wn rfl ak<|wg 8 rfl<|wx rfl (L [[105,102,32],a,[32,123]] (by simp) (by simp only [cX,xi,xd] at*;omega) t (by omega)) fun|_,⟨t1,rfl,Aa,z9⟩=>⟨rfl,?_⟩
    refine wg 1 rfl<|wx rfl (cN t1 ind (by omega) (by omega)) fun|_,⟨t2,rfl,as8,as7⟩=>⟨rfl,?_⟩
    refine gu<|wo rfl (aA (mY el))<|wn rfl c7<|wg 2 rfl<|wx rfl (L [[125]] (by simp) (by simp only [cX,xi,xd] at*;omega) t2 (by omega)) fun|_,⟨t5,rfl,as6,as5⟩=>⟨rfl,?_⟩
    exact wt rfl (wq (by omega) (by omega))
   ·refine wr rfl<|wn rfl ak<|wg 8 rfl<|wx rfl (L [[105,102,32],a,[32,123]] (by simp) (by simp only [cX,xi,xd] at*;omega) t (by omega)) fun|_,⟨t1,rfl,Aa,z9⟩=>⟨rfl,?_⟩
    refine wg 1 rfl<|wx rfl (cN t1 ind (by omega) (by omega)) fun|_,⟨t2,rfl,as8,as7⟩=>⟨rfl,?_⟩
    refine gu<|wo rfl (aA (mY el))<|wy rfl c7<|wg 2 rfl<|wx rfl (L [[125,32,101,108,115,101,32,123]] (by simp) (by simp only [cX,xi,xd] at*;omega) t2 (by omega)) fun|_,⟨t3,rfl,di8,di7⟩=>⟨rfl,?_⟩
    refine wg 1 rfl<|wx rfl (cx t3 ind (by omega) (by omega)) fun|_,⟨t4,rfl,di6,di5⟩=>⟨rfl,?_⟩
    refine qp<|wg 2 rfl<|wx rfl (L [[125]] (by simp) (by simp only [cX,xi,xd] at*;omega) t4 (by omega)) fun|_,⟨t5,rfl,as6,as5⟩=>⟨rfl,?_⟩
    exact wt rfl (wq (by omega) (by omega))
  ·obtain⟨a,rfl⟩:=ya (show es.length=1 by omega);have ha:=he a (by simp);refine wr rfl<|wn rfl ak<|wg 9 rfl<|wx rfl (L [[119,104,105,108,101,32],a,[32,123]] (by simp) (by simp only [cX,xi,xd] at*;omega) t (by omega)) fun|_,⟨t1,rfl,Aa,z9⟩=>⟨rfl,?_⟩
   refine wg 1 rfl<|wx rfl (cN t1 ind (by omega) (by omega)) fun|_,⟨t2,rfl,as8,as7⟩=>⟨rfl,?_⟩
   refine gu<|wg 2 rfl<|wx rfl (L [[125]] (by simp) (by simp only [cX,xi,xd] at*;omega) t2 (by omega)) fun|_,⟨t5,rfl,as6,as5⟩=>⟨rfl,?_⟩
   exact wt rfl (wq (by omega) (by omega))
  ·obtain⟨s9,AB,cj⟩:=hP.join es 1260 (by omega) he (by omega);refine wr rfl<|wn rfl ak<|wg 6 rfl<|wl rfl cj rfl<|wg 2 rfl<|wx rfl (L [[115,101,110,100,32],name,[46],cg,[40],s9,[41,59]] (by simp) (by simp only [cX,xi,xd] at*;omega) t (by omega)) fun|_,⟨t1,rfl,Aa,z9⟩=>⟨rfl,?_⟩
   exact wt rfl (wq (by omega) (by omega))
  ·exact h7 rfl es cz he
  ·obtain⟨a,b,rfl⟩:=LU (show es.length=2 by omega);have ha:=he a (by simp);have hb:=he b (by simp);refine wr rfl<|wn rfl ak<|wg 10 rfl<|wo rfl (du (by simp only [xa,xi,xd];omega))<|wo rfl (du (by simp only [xa,xi,xd];omega))<|wg 2 rfl<|dJ<|wo rfl (du (by simp only [xa,xi,xd];omega))<|wg 1 rfl<|wx rfl (W6 cx (by simp only [xa,xi,xd];omega) (by omega) (by omega)) fun|_,⟨t1,rfl,CM,CL⟩=>⟨rfl,?_⟩
   exact wt rfl (wq (by omega) (by omega))
  ·obtain⟨a,rfl⟩:=ya (show es.length=1 by omega);have ha:=he a (by simp);refine wr rfl<|wn rfl ak<|wg 9 rfl<|wo rfl (du (by simp only [xa,xi,xd];omega))<|wo rfl (du (by simp only [xa,xi,xd];omega))<|wg 2 rfl<|wo rfl (du (by simp only [xa,xi,xd];omega))<|dJ<|wg 1 rfl<|wx rfl (W6 cx (by simp only [xa,xi,xd];omega) (by omega) (by omega)) fun|_,⟨t1,rfl,CM,CL⟩=>⟨rfl,?_⟩
   exact wt rfl (wq (by omega) (by omega))
  ·obtain rfl:es=[]:=xE.1 (by omega);refine wr rfl<|wn rfl ak<|wg 12 rfl<|wx rfl (L [[115,116,111,112,59]] (by simp) (by simp only [cX,xi,xd] at*;omega) t (by omega)) fun|_,⟨t1,rfl,Aa,z9⟩=>⟨rfl,?_⟩
   exact wt rfl (wq (by omega) (by omega))
 have loop:∀(ae pre:List Fl.Ex),bi=pre++ae→∀es:List aH,es.length=pre.length→(∀e∈es,e.length≤1260)→Rn F X 102 1 [.sl (strs es++List.replicate ae.length [.str []]),.sl (Ex.ss bi),jD bi.length,jD pre.length,.sl (bX t),jD ind,bD kind,.str name,.str cg,.sl (St.ss th),.sl (St.ss el)] (WQ t ind (20000*(1+St.ns th+St.ns el))):=by
  intro ae
  induction ae with
  |nil=>
   intro pre aE es h1 h2;rw[xj] at aE;rw[show([]:List Fl.Ex).length=0 from rfl,List.replicate_zero,xj,←aE];exact fin es (by rw[h1,aE]) h2
  |cons a ae ih=>
   intro pre aE es h1 h2;have aC:=bu aE;have ap:(Ex.ss bi)[pre.length]? =some (Ex.s a):=by rw[aE];exact tH _ _ _
   have ha:=hs.ex a (by rw[aE];simp);have aT:=ha.1.sz6 ha.2;have ct:=bc0 (X:=X) hP ha.1 (by omega);have aQ:∀s:aH,aU (.fk 0) [.sl (strs es++List.replicate (ae.length+1) [.str []]),jD pre.length,.str s]=some (.sl (strs (es++[s])++List.replicate ae.length [.str []])):=fun s=>by
    have e0:(strs es).length=pre.length:=by rw[tB,h1]
    rw[←e0,Dy (ds:=[.str s]) Dj (show([D.str []]:List D).length=[D.str s].length from rfl),Dg,Oe]
   have rC:aU .kW [.sl (strs es++List.replicate (ae.length+1) [D.str []]),jD pre.length]=some (.bool (decide (pre.length<bi.length))):=u4 (by simp[tB];omega);have next:=fun(s:aH) (hs:s.length≤1260)=>ih (pre++[a]) (by rw[aE,bp]) (es++[s]) (by simp[h1]) (fun e he=>by
    rcases xF.1 he with he|he
    ·exact h2 e he
    ·rw[xy] at he;subst he;exact hs)
   have e1:(pre++[a]).length=pre.length+1:=by simp
   rw[e1] at next;rw[show(a::ae).length=ae.length+1 from rfl];obtain⟨o1,n1,i1,a1⟩:=a;refine wr rfl<|wy rfl ak<|wo rfl (aB ap rfl)<|wg 1 rfl<|oY<|wg 1 rfl<|wx rfl ct fun|_,⟨s,rfl,fp⟩=>⟨rfl,?_⟩
   exact wy rfl rC<|wo rfl (aQ s)<|wo rfl oA<|Wp.jump rfl (next s (by omega))
 have g:=loop bi [] rfl [] rfl (fun e h=>by cases h);exact wr rfl<|w8<|wo rfl (aA (jC _))<|wo rfl (DA rfl (by omega) (by omega))<|wo rfl (aA (jC _))<|wj g
end
section
variable{X:Nat→List D→Option (List D)}
def DN(X:Nat→List D→Option (List D)):Prop:=∀(cg:aH) (bi:List Fl.Ex) (es:List aH) (t:List UInt8) (ind:Nat),1≤bi.length→bi.length≤3→es.length=bi.length→(∀e∈es,e.length≤1260)→cg.length≤6→ind≤41→t.length≤100000000000→
 Rn F X 102 1 [.sl (strs es),.sl (Ex.ss bi),jD bi.length,jD bi.length,.sl (bX t),jD ind,bD 7,.str [],.str cg,.sl [],.sl []] (WQ t ind 20000)
theorem hY.BX{P:St→Prop}{kind:Nat}{name cg:aH}{bi:List Fl.Ex}{th el:List St}(h:hY P ⟨kind,name,cg,bi,th,el⟩):P ⟨kind,name,cg,bi,th,el⟩∧(∀s∈th,hY P s)∧∀s∈el,hY P s:=by
 cases h with
 |mk a b c=>exact⟨a,b,c⟩
theorem aS8(hP:yN X)(h7:DN X):∀(m:Nat) (l:List St),St.ns l≤m→(∀s∈l,hY nE s)→BW X l:=by
 intro m
 induction m with
 |zero=>
  intro l hl h t ind hi ht;have:=ot l;obtain rfl:l=[]:=xE.1 (by omega);exact wr rfl<|wo rfl oA<|wo rfl bf<|Wp.jump rfl<|wr rfl<|wg 1 rfl<|wo rfl oW<|wt rfl ⟨t,rfl,by omega,by omega⟩
 |succ m ih=>
  intro l hl h t ind hi ht;have loop:∀(ae pre:List St),l=pre++ae→∀t':List UInt8,t.length≤t'.length→t'.length≤t.length+20000*St.ns pre→Rn F X 103 1 [.sl (St.ss l),jD l.length,jD pre.length,.sl (bX t'),jD (ind+1)] (WQ t ind (20000*St.ns l)):=by
   intro ae
   induction ae with
   |nil=>
    intro pre aE t' q1 q2;rw[xj] at aE;subst aE;exact wr rfl<|wn rfl ak<|wo rfl oW<|wt rfl ⟨t',rfl,by omega,by omega⟩
   |cons a ae dj=>
    intro pre aE t' q1 q2;have aC:=bu aE;have lW:=ot l;have ap:(St.ss l)[pre.length]? =some (St.s a):=by rw[aE];exact y4 _ _ _
    have kv:St.ns l=St.ns pre+(St.n a+St.ns ae):=by rw[aE,St.wF];rfl
    have next:=dj (pre++[a]) (by rw[aE,bp]);rw[xa,St.wF] at next;have ha:=h a (by rw[aE];simp);obtain⟨kind,name,cg,bi,th,el⟩:=a;obtain⟨jw,h1,h2⟩:=hY.BX ha;simp only [St.n] at kv;have jw:Rx kind name cg bi th el:=jw;have pa:cg.length≤6:=by
     rcases jw.hn with⟨_,h⟩|⟨_,rfl⟩
     ·exact rO h
     ·exact xL _
    have c1:=aS6 (X:=X) hP jw (ih th (by omega) h1) (ih el (by omega) h2) (t:=t') (ind:=ind+1) (by omega) (by omega) (by omega) (by omega) (fun hk es bc fW=>by
     subst hk;obtain rfl:name=[]:=by rcases jw.nm with⟨h,_⟩|⟨_,h⟩;omega;exact h
     obtain rfl:th=[]:=by rcases jw.thn with h|h|h;omega;omega;exact h
     obtain rfl:el=[]:=by rcases jw.eln with h|h|h|h;omega;omega;omega;exact h
     have hx:1≤bi.length∧bi.length≤3:=by have:=jw.ln;omega
     exact h7 cg bi es t' (ind+1) hx.1 hx.2 bc fW pa (by omega) (by omega))
    refine wr rfl<|wy rfl ak<|wo rfl (aB ap rfl)<|wg 1 rfl<|lH<|wg 1 rfl<|wx rfl c1 fun|_,⟨t2,rfl,q3,q4⟩=>⟨rfl,?_⟩
    exact wo rfl oA<|Wp.jump rfl (next t2 (by omega) (by simp only [St.ns,St.n];omega))
  have g:=loop l [] rfl t (by omega) (by omega);exact wr rfl<|wo rfl oA<|wo rfl (aA (mY _))<|wj g
theorem aG2(hP:yN X)(h7:DN X){l:List Hn}(hl:l.length≤3)(h:∀x∈l,CX x){t:List UInt8}{ind:Nat}(hi:ind≤20)(ht:t.length≤10000000000):Rn F X 104 0 [.sl (bX t),jD ind,.sl (l.map Hn.s)] (WQ t ind (300000*l.length)):=by
 have loop:∀(ae pre:List Hn),l=pre++ae→∀t':List UInt8,t.length≤t'.length→t'.length≤t.length+300000*pre.length→Rn F X 104 1 [.sl (l.map Hn.s),jD l.length,jD pre.length,.sl (bX t'),jD ind] (WQ t ind (300000*l.length)):=by
  intro ae
  induction ae with
  |nil=>
   intro pre aE t' q1 q2;rw[xj] at aE;subst aE;exact wr rfl<|wn rfl ak<|wt rfl ⟨t',rfl,by omega,by omega⟩
  |cons a ae dj=>
   intro pre aE t' q1 q2;have aC:=bu aE;have ap:=bR (f:=Hn.s) aE;have next:=dj (pre++[a]) (by rw[aE,bp]);rw[xa] at next;have e1:pre.length+[a].length=pre.length+1:=rfl;rw[e1] at next;have ha:=h a (by rw[aE];simp);have Nn:=rO ha.name;obtain⟨s9,AB,cj⟩:=hP.join a.params 6 (by have:=ha.params.1;omega) (fun s hs=>rO (ha.params.2 s hs)) (by omega);have c1:=aS8 (X:=X) hP h7 12 a.body ha.n ha.body;have vS:=ha.n;have L:=fun(ps:List aH) (hp:ps.length≤20) (hs:cX ps≤6000) (t1:List UInt8) (ht:t1.length≤200000000000)=>KV (X:=X) (ps:=ps) hp hs (ind:=ind) (by omega) ht
   obtain⟨n1,n2,n3⟩:=a;simp only at Nn cj c1 vS;refine wr rfl<|wy rfl ak<|wo rfl (aB ap rfl)<|wg 1 rfl<|w9<|wl rfl cj rfl<|wg 2 rfl<|wx rfl (L [[111,110,32],n1,[40],s9,[41,32,123]] (by simp) (by simp only [cX,xi,xd];omega) t' (by omega)) fun|_,⟨t1,rfl,CM,CL⟩=>⟨rfl,?_⟩
   refine wg 1 rfl<|wx rfl (c1 t1 ind (by omega) (by omega)) fun|_,⟨t2,rfl,FM,CK⟩=>⟨rfl,?_⟩
   refine dJ<|wg 2 rfl<|wx rfl (L [[125]] (by simp) (by simp only [cX,xi,xd];omega) t2 (by omega)) fun|_,⟨t3,rfl,Uj,Ui⟩=>⟨rfl,?_⟩
   exact wo rfl oA<|Wp.jump rfl (next t3 (by omega) (by omega))
 have g:=loop l [] rfl t (by omega) (by omega);exact wr rfl<|wo rfl (aA (ch _ _))<|wj g
end
section
variable{X:Nat→List D→Option (List D)}
abbrev LN(X:Nat→List D→Option (List D))(ind:Nat):Prop:=∀(ps:List aH),ps.length≤20→cX ps≤6000→∀(t1:List UInt8),t1.length≤200000000000→Rn F X 100 0 [.sl (bX t1),jD ind,.sl (strs ps)] (WQ t1 ind 6200)
theorem M1{ind:Nat}(h:ind≤60):LN X ind:=fun ps hp hs t1 ht=>KV (X:=X) (ps:=ps) hp hs h ht
theorem cR9:Rn F X 96 0 [] (·=[.str [116,114,117,101]]):=by
 exact wr rfl<|wt rfl rfl
theorem aE0:Rn F X 97 0 [] (·=[.str [102,97,108,115,101]]):=by
 exact wr rfl<|wt rfl rfl
theorem aS7(hP:yN X)(hI:yO X)(h7:DN X){c:Cm}(hc:Ja c){t:List UInt8}(ht:t.length≤1000000000):Rn F X 105 0 ([.sl (bX t),jD 1]++c.s) (WQ t 1 3000000):=by
 have L1:LN X 1:=M1 (by omega);have L2:LN X 2:=M1 (by omega);have Nn:=rO hc.name;have TK:=hc.vars.1;have cM:=hc.vs.2;have kA:∀(ae pre:List (List Hn)),c.bx=pre++ae→∀t':List UInt8,t.length≤t'.length→t'.length≤t.length+40000+1000000*pre.length→Rn F X 105 2 [.sl (cL c.bx),jD c.bx.length,jD pre.length,.sl (bX t'),jD 2] (WQ t 1 3000000):=by
  intro ae
  induction ae with
  |nil=>
   intro pre aE t' q1 q2;rw[xj] at aE;have hp':pre.length=c.bx.length:=by rw[aE]
   refine wr rfl<|wn rfl ak<|wo rfl (Dx (a:=2) (b:=1) (by omega) (by omega))<|wg 2 rfl<|wx rfl (L1 [[125]] (by simp) (by simp only [cX,xi,xd];omega) t' (by omega)) fun|_,⟨t3,rfl,Uj,Ui⟩=>⟨rfl,?_⟩
   exact wt rfl ⟨t3,rfl,by omega,by omega⟩
  |cons a ae dj=>
   intro pre aE t' q1 q2;have aC:=bu aE;have ap:(cL c.bx)[pre.length]? =some [.sl (a.map Hn.s)]:=bR (f:=fun l:List Hn=>[D.sl (l.map Hn.s)]) aE;have next:=dj (pre++[a]) (by rw[aE,bp]);rw[xa] at next;have e1:pre.length+[a].length=pre.length+1:=rfl;rw[e1] at next;have ha:=hc.hs a (by rw[aE];simp);have Ue:=ha.1;have cH:=fun(t1:List UInt8) (ind:Nat) (hi:ind≤20) (h:t1.length≤10000000000)=>aG2 (X:=X) hP h7 ha.1 ha.2 (t:=t1) hi h
   rcases xI pre.length with h0|h0
   ·rw[h0] at ap next⊢;refine wr rfl<|wy rfl ak<|wo rfl (aB ap rfl)<|wg 1 rfl<|w7<|wy rfl ay<|wg 1 rfl<|wx rfl (cH t' 2 (by omega) (by omega)) fun|_,⟨t2,rfl,FM,CK⟩=>⟨rfl,?_⟩
    exact wo rfl oA<|Wp.jump rfl (next t2 (by omega) (by omega))
   ·obtain⟨s9,AB,ci⟩:=hI.L3 (pre.length+1) (by omega);refine wr rfl<|wy rfl ak<|wo rfl (aB ap rfl)<|wg 1 rfl<|w7<|wn rfl ay<|wo rfl oA<|wl rfl ci rfl<|wg 2 rfl<|wx rfl (L2 [[118,101,114,115,105,111,110,32],s9,[32,123]] (by simp) (by simp only [cX,xi,xd];omega) t' (by omega)) fun|_,⟨t1,rfl,CM,CL⟩=>⟨rfl,?_⟩
    refine lH<|wo rfl oA<|wg 1 rfl<|wx rfl (cH t1 3 (by omega) (by omega)) fun|_,⟨t2,rfl,FM,CK⟩=>⟨rfl,?_⟩
    refine wo rfl (Dx (a:=3) (b:=1) (by omega) (by omega))<|wg 2 rfl<|gu<|wx rfl (L2 [[125]] (by simp) (by simp only [cX,xi,xd];omega) t2 (by omega)) fun|_,⟨t3,rfl,Uj,Ui⟩=>⟨rfl,?_⟩
    exact wo rfl oA<|Wp.jump rfl (next t3 (by omega) (by omega))
 have G7:∀(ae pre:List Vr),c.vars=pre++ae→∀t':List UInt8,t.length≤t'.length→t'.length≤t.length+6200+6200*pre.length→Rn F X 105 1 [.sl (c.vars.map Vr.s),jD c.vars.length,jD pre.length,.sl (bX t'),jD 2,.str c.name,.sl (cL c.bx)] (WQ t 1 3000000):=by
  intro ae
  induction ae with
  |nil=>
   intro pre aE t' q1 q2;rw[xj] at aE;have hp':pre.length=c.vars.length:=by rw[aE]
   exact wr rfl<|wn rfl ak<|wo rfl (aA (xm _))<|Wp.jump rfl (kA c.bx [] rfl t' q1 (by simp;omega))
  |cons a ae dj=>
   intro pre aE t' q1 q2;have aC:=bu aE;have ap:=bR (f:=Vr.s) aE;have next:=dj (pre++[a]) (by rw[aE,bp]);rw[xa] at next;have e1:pre.length+[a].length=pre.length+1:=rfl;rw[e1] at next;have ha:=hc.vars.2 a (by rw[aE];simp);have an6:=rO ha.name;have AA:=ha.type;obtain⟨a1,a2,a3⟩:=a;simp only at an6 AA;rcases AA with⟨rfl,hq⟩|⟨rfl|rfl,rfl⟩
   ·obtain⟨s9,AB,ci⟩:=hP.int a3 (by omega);refine wr rfl<|wy rfl ak<|wo rfl (aB ap rfl)<|wg 1 rfl<|dh<|wg 1 rfl<|wl rfl ci rfl<|wg 2 rfl<|wx rfl (L2 [[118,97,114,32],a1,[58,32,105,110,116,32,61,32],s9,[59]] (by simp) (by simp only [cX,xi,xd];omega) t' (by omega)) fun|_,⟨t1,rfl,CM,CL⟩=>⟨rfl,?_⟩
    exact wo rfl oA<|oY<|Wp.jump rfl (next t1 (by omega) (by omega))
   ·refine wr rfl<|wy rfl ak<|wo rfl (aB ap rfl)<|wg 1 rfl<|dh<|wg 3 rfl<|wl rfl aE0 rfl<|wg 2 rfl<|wx rfl (L2 [[118,97,114,32],a1,[58,32,98,111,111,108,32,61,32],[102,97,108,115,101],[59]] (by simp) (by simp only [cX,xi,xd];omega) t' (by omega)) fun|_,⟨t1,rfl,CM,CL⟩=>⟨rfl,?_⟩
    exact wo rfl oA<|oY<|Wp.jump rfl (next t1 (by omega) (by omega))
   ·refine wr rfl<|wy rfl ak<|wo rfl (aB ap rfl)<|wg 1 rfl<|dh<|wg 5 rfl<|wx rfl (L2 [[118,97,114,32],a1,[58,32,116,97,98,108,101,59]] (by simp) (by simp only [cX,xi,xd];omega) t' (by omega)) fun|_,⟨t1,rfl,CM,CL⟩=>⟨rfl,?_⟩
    exact wo rfl oA<|Wp.jump rfl (next t1 (by omega) (by omega))
 have g:=G7 c.vars [] rfl;obtain⟨c1,c2,c3⟩:=c;simp only at Nn;refine wr rfl<|w5<|wg 2 rfl<|wx rfl (L1 [[99,111,109,112,111,110,101,110,116,32],c1,[32,123]] (by simp) (by simp only [cX,xi,xd];omega) t (by omega)) fun|_,⟨t1,rfl,CM,CL⟩=>⟨rfl,?_⟩
 exact wo rfl (m4 (a:=1) (b:=1) (by omega))<|wo rfl (aA (ch _ _))<|n7<|Wp.jump rfl (g t1 (by omega) (by simp;omega))
end
section
variable{X:Nat→List D→Option (List D)}
theorem aS5(hP:yN X):DN X:=by
 intro cg bi es t ind h1 h3 cz he pa hi ht;have L:=fun(ps:List aH) (hp:ps.length≤20) (hs:cX ps≤6000) (t1:List UInt8) (ht:t1.length≤200000000000)=>KV (X:=X) (ps:=ps) hp hs (ind:=ind) (by omega) ht
 obtain⟨a,r,rfl⟩:∃a r,es=a::r:=by
  cases es with
  |nil=>simp at cz;omega
  |cons a r=>exact⟨a,r,rfl⟩
 have ha:=he a (by simp);have ru:r.length≤3:=by simp at cz;omega
 obtain⟨s9,AB,cj⟩:=hP.join r 1260 ru (fun e h=>he e (by simp[h])) (by omega);have fp:aU (.iF 1) [.sl (strs (a::r)),jD 1]=some (.sl (strs r)):=JV (a:=1) (by simp[tB]) (fun row h=>(Jn _ row h).1);refine wr rfl<|wn rfl ak<|wg 10 rfl<|wo rfl fp<|wl rfl cj rfl<|dJ<|wg 2 rfl<|wx rfl (L [[97,102,116,101,114,32],a,[32,100,111,32],cg,[40],s9,[41,59]] (by simp) (by simp only [cX,xi,xd] at*;omega) t (by omega)) fun|_,⟨t1,rfl,Aa,z9⟩=>⟨rfl,?_⟩
 exact wt rfl ⟨t1,rfl,by omega,by simp only [cX,xi,xd] at*;omega⟩
end
section
variable{X:Nat→List D→Option (List D)}
def Sn(o:Option (List D)):Bool:=match o with|some [.bool true]=>true|_=>false
def L4(o:Option (List D)):Bool:=match o with|some [.str s]=>decide (s.length≤3)|_=>false
theorem bf1{o:Option (List D)}(h:Sn o=true):o=some [.bool true]:=by
 unfold Sn at h;split at h
 ·rfl
 ·cases h
theorem WU{o:Option (List D)}(h:L4 o=true):∃s:aH,s.length≤3∧o=some [.str s]:=by
 unfold L4 at h;split at h
 ·exact⟨_,of_decide_eq_true h,rfl⟩
 ·cases h
theorem Rn.Tx{i n:Nat}{ds o:List D}(h:exec F X n i 0 ds=some o):Rn F X i 0 ds (·=o):=⟨o,(Dh F X).2 ⟨n,h⟩,rfl⟩
theorem aP1:(GN.all fun s=>Sn (exec F X 30 109 0 [.str s]))=true:=by kernel_rfl
theorem aP4:∀s∈GN,Rn F X 109 0 [.str s] (·=[.bool true]):=fun s hs=>Rn.Tx (bf1 (List.all_eq_true.1 (aP1 (X:=X)) s hs))
theorem aX0:((List.range 13).all fun n=>L4 (exec F X 9 111 0 [iD n]))=true:=by kernel_rfl
theorem bf0:yO X:=⟨fun n hn=>by
 obtain⟨s,h1,h2⟩:=WU (List.all_eq_true.1 (aX0 (X:=X)) n (List.mem_range.2 (by omega)));exact⟨s,h1,Rn.Tx h2⟩⟩
theorem aY1:((List.range 9).all fun n=>L4 (exec F X 9 112 0 [iD n,iD 10]))=true:=by kernel_rfl
theorem bg3:∀n,n≤8→∃s:aH,s.length≤3∧Rn F X 112 0 [iD n,iD 10] (·=[.str s]):=fun n hn=>by
 obtain⟨s,h1,h2⟩:=WU (List.all_eq_true.1 (aY1 (X:=X)) n (List.mem_range.2 (by omega)));exact⟨s,h1,Rn.Tx h2⟩
end
section
variable{X:Nat→List D→Option (List D)}
theorem Wb:∀l:List UInt8,wJ (bX l).flatten=some l
 |[]=>rfl
 |b::l=>by
  show(if b.toNat<256 then(wJ (bX l).flatten).map (fun r=>b.toNat.toUInt8::r) else none)=_;rw[if_pos b.toNat_lt,Wb l];simp
theorem VT{t:List UInt8}(h:t.length≤1000000000000):aU .Bs [.sl (bX t),jD t.length]=some (.str t):=by
 show(if((t.length:Nat):Int)=((bX t).length:Int)∧(bX t).length≤9223372036854775807 then(wJ (bX t).flatten).map D.str else none)=_;rw[if_pos ⟨by rw[tu],by rw[tu];omega⟩,Wb];rfl
theorem bn5{n:Nat}(h:n≤1000000000):aU (.gR 1 1) [jD n,jD n,.int .u8 0]=some (.sl (List.replicate n [.int .u8 0])):=by
 show(if _ then _ else none)=_;rw[if_pos ⟨rfl,xk _,by simp[jI];omega⟩]
theorem VL{l pre ae:List aH}{a:aH}(h:l=pre++a::ae):(strs l)[pre.length]? =some [.str a]:=bR (f:=fun p=>[D.str p]) h
theorem bR1{m:Nat}(hm:m≤100000){r:List aH}(hr:r.length≤3)(h:∀s∈r,s.length≤m):∀(ae pre:List aH),r=pre++ae→∀t:List UInt8,1≤t.length+ae.length→t.length+(m+2)*ae.length≤1000000→Rn F X 113 2 [.str [44,32],.sl (strs r),jD r.length,jD pre.length,.sl (bX t)] (fun o=>∃s:aH,o=[.str s]∧s.length≤t.length+(m+2)*ae.length):=by
 intro ae
 induction ae with
 |nil=>
  intro pre hp t h1 h2;rw[xj] at hp;have hp':pre.length=r.length:=by rw[hp]
  have h1:1≤t.length:=by simpa using h1
  exact wr rfl<|wn rfl ak<|wo rfl (aA (tu _))<|wy rfl (u4 (k:=0) (tu _))<|wo rfl (VT (by omega))<|wt rfl ⟨t,rfl,by simp⟩
 |cons a ae ih=>
  intro pre hp t h1 h2;have aC:=bu hp;have ap:=VL hp;have ha:=h a (by rw[hp];simp);have pU:ae.length≤2:=by omega
  have next:=fun(t':List UInt8)=>ih (pre++[a]) (by rw[hp,bp]) t'
  rw[xa,show[a].length=1 from rfl] at next;have Uu:=wu (t:=t) (s:=[44,32]) (by simp;omega);have l1:(t++[44,32]).length=t.length+2:=by simp
  have ap2:=wu (t:=t++[44,32]) (s:=a) (by rw[l1];omega);have Cb:(m+2)*(ae.length+1)=(m+2)*ae.length+(m+2):=Nat.mul_succ _ _;rw[show(a::ae).length=ae.length+1 from rfl] at h2⊢;have l2:(t++[44,32]++a).length=t.length+2+a.length:=by rw[xa,l1]
  have nx:=(next (t++[44,32]++a) (by omega) (by omega)).mono (Q':=fun o=>∃s:aH,o=[.str s]∧s.length≤t.length+(m+2)*(ae.length+1)) (fun o ⟨s,e1,e2⟩=>⟨s,e1,by rw[l2] at e2;omega⟩);exact wr rfl<|wy rfl ak<|wo rfl (aB ap rfl)<|wg 2 rfl<|wo rfl Uu<|wg 1 rfl<|w9<|wg 1 rfl<|wo rfl ap2<|wg 1 rfl<|wo rfl oA<|wj nx
theorem be9:∀(l:List aH) (m:Nat),l.length≤3→(∀s∈l,s.length≤m)→m≤100000→∃s:aH,s.length≤3*m+4∧Rn F X 113 0 [.sl (strs l),.str [44,32]] (·=[.str s]):=by
 intro l m hl h hm
 match l,hl,h with
 |[],_,_=>
  refine⟨[],xL _,?_⟩;exact wr rfl<|wg 2 rfl<|wt rfl rfl
 |[a],_,h=>
  have ha:=h a (by simp);refine⟨a,by omega,?_⟩;exact wr rfl<|wg 5 rfl<|wt rfl rfl
 |a::b::r,hl,h=>
  have ha:=h a (by simp);have hr:(b::r).length≤2:=by simp at hl⊢;omega
  generalize hq:b::r=q at*;have hq1:1≤q.length:=by rw[←hq];simp
  have j2:=fun(t:List UInt8) (h1:t.length≤m)=>bR1 (X:=X) hm (r:=q) (by omega) (fun s hs=>h s (by simp[hs])) q [] rfl t (by omega) (by
   have:(m+2)*q.length≤(m+2)*2:=Nat.mul_le_mul_left _ hr;omega)
  have key:Rn F X 113 0 [.sl (strs (a::q)),.str [44,32]] (fun o=>∃s:aH,o=[.str s]∧s.length≤3*m+4):=by
   have bM5:∀(ae pre:List aH),a::q=pre++ae→∀n:Nat,2≤n→n≤10+m*pre.length→Rn F X 113 1 [.sl (strs (a::q)),.str [44,32],jD n,jD (a::q).length,jD pre.length] (fun o=>∃s:aH,o=[.str s]∧s.length≤3*m+4):=by
    intro ae
    induction ae with
    |nil=>
     intro pre hp n h1 h2;rw[xj] at hp;have hp':pre.length=q.length+1:=by rw[←hp];rfl
     have hn:n≤10+m*3:=xH h2 (Nat.add_le_add_left (Nat.mul_le_mul_left _ (by omega)) _);have ap:(strs (a::q))[0]? =some [.str a]:=rfl;have Uu:aU (.app 1 1) [.sl [],.str a]=some (.sl (bX a)):=wu (t:=[]) (s:=a) (by simp;omega);have fp:aU (.iF 1) [.sl (strs (a::q)),jD 1]=some (.sl (strs q)):=JV (a:=1) (by simp[tB]) (fun row h=>(Jn _ row h).1);have nx:=(j2 a (by omega)).mono (Q':=fun o=>∃s:aH,o=[.str s]∧s.length≤3*m+4) (fun o ⟨s,e1,e2⟩=>⟨s,e1,by
      have:(m+2)*q.length≤(m+2)*2:=Nat.mul_le_mul_left _ hr;omega⟩)
     exact wr rfl<|Wp.iG rfl ak (by simp;omega)<|wn rfl (ak (a:=(n:Int)) (b:=0))<|wy rfl (ak (a:=0) (b:=(n:Int)))<|wo rfl (m4 (a:=0) (b:=n) (by omega))<|wo rfl (bn5 (n:=0+n) (by omega))<|wg 1 rfl<|wo rfl (aB ap rfl)<|w9<|wg 2 rfl<|wo rfl Uu<|wg 1 rfl<|wo rfl fp<|mN<|wo rfl (aA (tB _))<|wj nx
    |cons x ae ih=>
     intro pre hp n h1 h2;have aC:=bu hp;have ap:=VL hp;have hx:=h x (by rw[show a::q=pre++x::ae from hp];simp);have fV:pre.length≤2:=by simp at aC;omega
     have hn:n≤10+m*2:=xH h2 (Nat.add_le_add_left (Nat.mul_le_mul_left _ fV) _);have next:=ih (pre++[x]) (by rw[hp,bp]) (n+x.length) (by omega) (by rw[xa,show[x].length=1 from rfl,Nat.mul_add];omega);rw[xa,show[x].length=1 from rfl] at next;exact wr rfl<|wy rfl ak<|wo rfl (aB ap rfl)<|wg 2 rfl<|wo rfl (Dx (a:=9223372036854775807) (b:=n) (by omega) (by omega))<|w9<|wn rfl c7<|wg 1 rfl<|wo rfl (m4 (a:=n) (b:=x.length) (by omega))<|wo rfl (m4 (a:=pre.length) (b:=1) (by omega))<|wj next
   have e1:(strs (a::q)).length=q.length+1:=by rw[tB];rfl
   have g:=fun n (h1:2≤n) (h2:n≤10)=>bM5 (a::q) [] rfl n h1 (by omega)
   rw[show(a::q).length=q.length+1 from rfl] at g;have ry:q.length=1∨q.length=2:=by omega
   rcases ry with e|e
   ·rw[e] at e1 g;exact wr rfl<|wo rfl (aA e1)<|wg 5 rfl<|wo rfl (aA e1)<|w6<|wg 4 rfl<|wo rfl (aA e1)<|n7<|wg 3 rfl<|wo rfl (aA e1)<|nj<|Wp.jump rfl (g _ (by decide) (by decide))
   ·rw[e] at e1 g;exact wr rfl<|wo rfl (aA e1)<|wg 5 rfl<|wo rfl (aA e1)<|w6<|wg 4 rfl<|wo rfl (aA e1)<|n7<|wg 3 rfl<|wo rfl (aA e1)<|nj<|Wp.jump rfl (g _ (by decide) (by decide))
  obtain⟨o,h1,s,rfl,h2⟩:=key;exact⟨s,h2,_,h1,rfl⟩
theorem xpr:yN X:=⟨bg3,be9⟩
end
end Go.Proofs.YtaginlnifpbfgaaGreatDoor
