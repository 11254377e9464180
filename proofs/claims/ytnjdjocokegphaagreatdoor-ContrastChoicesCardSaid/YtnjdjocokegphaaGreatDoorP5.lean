/- What these functions answer. -/
import Derived.Test.YtnjdjocokegphaaGreatDoorP4
set_option linter.unusedVariables false
set_option linter.unusedSimpArgs false
set_option maxHeartbeats 4000000
set_option maxRecDepth 100000
namespace Go.Proofs.YtnjdjocokegphaaGreatDoor
open Go.Ex Go.RowKit Go.Fl
section
variable{X:Nat→List D→Option (List D)}{ar:List (List Nat)}{f:dK}{own:Nat}{c:Cm}{n:Nat}{al:List Nat}{w:aL}
theorem bg0{l pre ae:List (List Hn)}(h:l=pre++ae):(cr l).take pre.length=cr pre:=Ca (g:=fun l:List Hn=>[D.sl (l.map Hn.s)]) h
theorem bm3(hI:wK X)(hf:gZ ar f){i:Nat}(hi:f.comps[i]? =some c):Rn F X 57 0 (fA f w++[jD i]) (fun o=>∃w',o=fA f w'):=by
 have hn:=hf.n;have Ia:=hf.fg;have bx:=hf.flags.1;have oB:=jB hi;have Eo:=hf.comps i c hi;obtain⟨ints,tables,al,i1,i3,t1,bm,Lv,mN,cx,hvl,iK⟩:=Eo.rest;have cA:=hf.uK;have aI6:=(cA al (xu bm)).2.1;have dk0:=(cA al (xu bm)).2.2;have cn:c.name=[(97+i).toUInt8]:=Eo.name;have cnl:c.name.length=1:=by rw[cn];rfl
 have N1:∀w w',Rn F X 53 0 (fA f w++[.str w']) (·= .bool true::fA f w'):=fun w w'=>G1 f w w'
 have u:=fun w n e=>wU (X:=X) f w n e
 have H':f.flags.length≤1000:=by omega
 have Jz:c.vars=bP ints tables:=Lv;have hvn:c.vars.length=ints+1+tables:=by rw[Jz];exact N8 _ _
 have vNd:∀(pre ae:List Vr) (v:Vr),c.vars=pre++v::ae→pz pre v.name=none∧tZ f.flags v.name=false∧v.name.length=2:=by
  intro pre ae v hp;have cS:(c.vars.map Vr.name).Nodup:=by
   rw[Jz];have a:ints=1∨ints=2∨ints=3:=by omega
   have b:tables=0∨tables=1:=by omega
   rcases a with rfl|rfl|rfl<;>rcases b with rfl|rfl<;>decide
  obtain⟨cc,kk,e,h'⟩:=VF (n:=ints) (t:=tables) (v:=v) (by rw[←Jz,hp];simp);refine⟨List.find?_eq_none.2 (fun x hx=> ?_),PA Ia (fun j hj=> ?_),by rw[e];rfl⟩
  ·rw[hp,List.map_append,List.map_cons,List.nodup_append] at cS;have:=cS.2.2 x.name (xJ.2 ⟨x,hx,rfl⟩) v.name (by simp);simpa using this
  ·rw[e];intro e2;have:=tB (by omega) (by omega) (by omega) (by omega) e2;omega
 have j5:∀(ae pre:List (List Hn)),c.bt=pre++ae→∀w,Rn F X 57 2 ([.sl (cr c.bt),jD c.bt.length,jD pre.length]++fA f w++[.str c.name,.sl (c.vars.map Vr.s)]) (fun o=>∃w',o=fA f w'):=by
  intro ae
  induction ae with
  |nil=>
   intro pre hp w;rw[xj] at hp;rw[hp];exact wr rfl<|jq<|wn rfl af<|wt rfl ⟨w,rfl⟩
  |cons v ae ih=>
   intro pre hp w;have aF:=bj hp;have aq:(cr c.bt)[pre.length]? =some [.sl (v.map Hn.s)]:=bR (f:=fun l:List Hn=>[D.sl (l.map Hn.s)]) hp;have mP:=bg0 hp;have aF7:(cr c.bt).length=c.bt.length:=xm _;have hv:=iK v (by rw[hp];simp);have next:=ih (pre++[v]) (by rw[hp,aV]);rw[xa] at next;obtain⟨s1,ec,MM⟩:=hI.Mo (pre.length+1) (by omega);have lh:∀(dA bp:List Hn),v=bp++dA→∀w,Rn F X 57 3 ([jD pre.length,.sl (cr c.bt),jD c.bt.length,.sl (v.map Hn.s),jD v.length,jD bp.length]++fA f w++[.str c.name,.sl (c.vars.map Vr.s)]) (fun o=>∃w',o=fA f w'):=by
    intro dA
    induction dA with
    |nil=>
     intro bp bA w;rw[xj] at bA;subst bA;exact wr rfl<|lG<|wn rfl af<|wo rfl oA<|Wp.jump rfl (next _)
    |cons h dA lJ=>
     intro bp bA w;have vw:=bj bA;have gf:=bR (f:=Hn.s) bA;have aF9:=Ca (g:=Hn.s) bA;have aH6:=bW Hn.s v;have fe:=lJ (bp++[h]) (by rw[bA,aV]);rw[xa] at fe;have ho:=hv.2.2 bp.length h (uX bA);obtain⟨m,hm,lK,hb⟩:=ho.lH;have eK:=dk0 m (xu hm);have H6:=jB hm;have jV:h.name.length=2:=by rw[ho.name];rfl
     have named:∀l∈c.bt,∀x∈l,∀k,x.name=nm 104 k→k<3→∃j,l[j]? =some x∧j=k:=by
      intro l hl x hx k hxk hk;obtain⟨j,hj⟩:=rO hx;have kM:=jB hj;have h2:=iK l hl;have h3:=(h2.2.2 j x hj).name;rw[hxk] at h3;exact⟨j,hj,(tB (by omega) (by omega) (by omega) (by omega) h3).2.symm⟩
     have n1:oQ [bp] h.name=none:=List.find?_eq_none.2 (fun x hx=>by
      have hx:x∈bp:=by simpa using hx
      intro e;have e:x.name=h.name:=by simpa using e
      obtain⟨j,hj⟩:=rO hx;have kM:=jB hj;have h1:v[j]? =some x:=by rw[bA,xw kM];exact hj
      have h3:=(hv.2.2 j x h1).name;rw[e,ho.name] at h3;have:=(tB (by omega) (by omega) (by omega) (by omega) h3).2;omega)
     have c1:=Om (X:=X) (l:=[bp]) (by simp) (fun x hx=>by rw[xy] at hx;subst hx;omega) h.name;rw[n1] at c1;have c1:Rn F X 48 0 [.sl [[.sl (bp.map Hn.s)]],.str h.name] (·=[.str [],.sl [],.sl [],.bool false]):=c1;have c2:=Om (X:=X) (l:=pre) (by omega) (fun x hx=>by have:=(iK x (by rw[hp];simp[hx])).2.1;omega) h.name;have cB:=fun w (HA:aL) (de5:HA.length≤20)=>bn7 (X:=X) (w:=w) (k:=0) hI (⟨hf,hi,bm,Jz,i3,t1,eK⟩:At ar f i c ints tables m al) de5 lK hb (by omega) ho.n
     have gi:h.params.length=m:=by rw[lK];simp[bi]
     have fX:(strs h.params).length=m:=by rw[←gi];exact xm _
     cases hq:oQ pre h.name with
     |none=>
      rw[hq] at c2;have c2:Rn F X 48 0 [.sl (cr pre),.str h.name] (·=[.str [],.sl [],.sl [],.bool false]):=c2;obtain⟨h1,h2,h3⟩:=h;simp only at jV c1 c2 cB gi fX;refine wr rfl<|lG<|wy rfl af<|wo rfl (aA gf rfl)<|wg 1 rfl<|jo<|wo rfl (c8 (by simp;omega))<|wo rfl (c8 (by simp;omega))<|wo rfl (c8 (by simp;omega))<|wo rfl (c8 (by simp;omega))<|v9<|wo rfl oA<|wl rfl MM rfl<|wo rfl (c8 (by simp;omega))<|wl rfl (N1 _ _) rfl<|iW ?_
      (refine Wp.op rfl (kZ (by rw[aH6];omega)) rfl ?_;rw[aF9])
      refine wg 2 rfl<|wL rfl c1 rfl<|wl rfl (u _ _ _) rfl<|A9 ?_
      (refine Wp.op rfl (kZ (by rw[aF7];omega)) rfl ?_;rw[mP])
      refine wl rfl c2 rfl<|wl rfl (u _ _ _) rfl<|wo rfl oA ?_;dsimp only [dS,Ex.r,St.r,List.cons_append,List.nil_append,jT,jS,jR,jQ,jP,Hn.s];refine wl rfl MM rfl<|wo rfl (c8 (by simp;omega))<|wg 1 rfl<|wx rfl (cB _ _ (by simp;omega)) fun|_,⟨w2,rfl⟩=>⟨rfl,?_⟩
      dsimp only [dS,Ex.r,St.r,List.cons_append,List.nil_append,jT,jS,jR,jQ,jP,Hn.s];exact wo rfl oA<|Wp.jump rfl (fe _)
     |some b=>
      rw[hq] at c2;have c2:Rn F X 48 0 [.sl (cr pre),.str h.name] (·=[.str b.name,.sl (strs b.params),.sl (St.ss b.body),.bool true]):=c2;have Bq:b.name=h.name:=by simpa using List.find?_some hq
      have hbp:b.params.length=m:=by
       obtain⟨l,hl,hx⟩:=List.mem_flatten.1 (List.mem_of_find?_eq_some hq);have UR:l∈c.bt:=by rw[hp];simp[hl]
       obtain⟨j,hj,rfl⟩:=named l UR b hx _ (by rw[Bq];exact ho.name) (by omega);obtain⟨m',zk,df2,_⟩:=((iK l UR).2.2 _ b hj).lH;rw[hm] at zk;cases zk;rw[df2];simp[bi]
      have hbs:(strs b.params).length=m:=by rw[←hbp];exact xm _
      obtain⟨h1,h2,h3⟩:=h;simp only at jV c1 c2 cB gi fX;refine wr rfl<|lG<|wy rfl af<|wo rfl (aA gf rfl)<|wg 1 rfl<|jo<|wo rfl (c8 (by simp;omega))<|wo rfl (c8 (by simp;omega))<|wo rfl (c8 (by simp;omega))<|wo rfl (c8 (by simp;omega))<|v9<|wo rfl oA<|wl rfl MM rfl<|wo rfl (c8 (by simp;omega))<|wl rfl (N1 _ _) rfl<|iW ?_
      (refine Wp.op rfl (kZ (by rw[aH6];omega)) rfl ?_;rw[aF9])
      refine wg 2 rfl<|wL rfl c1 rfl<|wl rfl (u _ _ _) rfl<|A9 ?_
      (refine Wp.op rfl (kZ (by rw[aF7];omega)) rfl ?_;rw[mP])
      refine wl rfl c2 rfl<|wo rfl (az hbs)<|wo rfl (az fX) ?_;dsimp only [dS,Ex.r,St.r,List.cons_append,List.nil_append,jT,jS,jR,jQ,jP,Hn.s];refine Wp.dB rfl au rfl<|wl rfl (u _ _ _) rfl<|wo rfl oA<|wl rfl MM rfl<|wo rfl (c8 (by simp;omega)) ?_;dsimp only [dS,Ex.r,St.r,List.cons_append,List.nil_append,jT,jS,jR,jQ,jP,Hn.s];refine wg 1 rfl<|wx rfl (cB _ _ (by simp;omega)) fun|_,⟨w2,rfl⟩=>⟨rfl,?_⟩
      dsimp only [dS,Ex.r,St.r,List.cons_append,List.nil_append,jT,jS,jR,jQ,jP,Hn.s];exact wo rfl oA<|Wp.jump rfl (fe _)
   exact wr rfl<|jq<|wy rfl af<|wo rfl (aA aq rfl)<|wg 1 rfl<|dC<|wo rfl (az (bW _ _))<|Wp.jump rfl (lh v [] rfl _)
 have FI:∀(ae pre:List Vr),c.vars=pre++ae→∀w,Rn F X 57 1 ([.sl (c.vars.map Vr.s),jD c.vars.length,jD pre.length]++fA f w++[.str c.name,.sl (cr c.bt)]) (fun o=>∃w',o=fA f w'):=by
  intro ae
  induction ae with
  |nil=>
   intro pre hp w;rw[xj] at hp;have hp':pre.length=c.vars.length:=by rw[hp]
   exact wr rfl<|jq<|wn rfl af<|wo rfl (az (xm _))<|Wp.jump rfl (j5 c.bt [] rfl _)
  |cons v ae ih=>
   intro pre hp w;have aF:=bj hp;have aq:=bR (f:=Vr.s) hp;have mP:=Ca (g:=Vr.s) hp;have mR:=bW Vr.s c.vars;obtain⟨q1,q2,q3⟩:=vNd pre ae v hp;have c1:=wM (X:=X) (l:=pre) (by omega) v.name;rw[q1] at c1;have c1:Rn F X 47 0 [.sl (pre.map Vr.s),.str v.name] (·=[.str [],bD 0,iD 0,.bool false]):=c1;have c2:=E8 (X:=X) H' v.name;rw[q2] at c2;have next:=ih (pre++[v]) (by rw[hp,aV]);rw[xa] at next;obtain⟨v1,v2,v3⟩:=v;simp only at c1 c2 q3;refine wr rfl<|jq<|wy rfl af<|wo rfl (aA aq rfl)<|wg 1 rfl<|fK<|wo rfl (c8 (by simp;omega))<|wo rfl (c8 (by simp;omega))<|wo rfl (c8 (by simp;omega))<|wl rfl (N1 _ _) rfl<|MV ?_
   (refine Wp.op rfl (kZ (by rw[mR];omega)) rfl ?_;rw[mP])
   refine wl rfl c1 rfl<|wl rfl c2 rfl<|wl rfl (u _ _ _) rfl ?_;dsimp only [dS,Ex.r,St.r,List.cons_append,List.nil_append,jT,jS,jR,jQ,jP,Vr.s];exact wo rfl oA<|Wp.jump rfl (next _)
 have aq:(f.comps.map Cm.s)[i]? =some (Cm.s c):=by rw[xx,hi];rfl
 have mR:=bW Cm.s f.comps;have mP:(f.comps.map Cm.s).take i=(f.comps.take i).map Cm.s:=by rw[List.map_take]
 have c1:=IA (X:=X) (l:=f.comps.take i) (by rw[xz];omega) c.name;have q1:yG (f.comps.take i) c.name=none:=List.find?_eq_none.2 (fun x hx=>by
  obtain⟨j,hj⟩:=rO hx;have kM:=jB hj;rw[xz] at kM;rw[List.getElem?_take_of_lt (by omega)] at hj;rw[(hf.comps j x hj).name,cn];intro e;have e:[(97+j).toUInt8]=[(97+i).toUInt8]:=by simpa using e
  have:=E6 (by omega) (by omega) e;omega)
 rw[q1] at c1;have c1:Rn F X 49 0 [.sl ((f.comps.take i).map Cm.s),.str c.name] (·=[.str [],.sl [],.sl [],.bool false]):=c1;have c2:=E8 (X:=X) H' c.name;rw[PA Ia (fun j hj e=>bD4 (by rw[cn] at e;exact e.symm))] at c2;have xl:=fun w=>FI c.vars [] rfl w
 obtain⟨k1,k2,k3⟩:=c;simp only at c1 c2 cnl;refine wr rfl<|wo rfl (aA aq rfl)<|wg 1 rfl<|jq<|wo rfl (c8 (by simp;omega))<|wl rfl (N1 _ _) rfl ?_
 (refine Wp.op rfl (kZ (by rw[mR];omega)) rfl ?_;rw[mP])
 exact wl rfl c1 rfl<|mI<|wl rfl c2 rfl<|wl rfl (u _ _ _) rfl<|wo rfl (az (bW _ _))<|Wp.jump rfl (xl _)
theorem aS9(hX:lO X)(hI:wK X)(hf:gZ ar f):Rn F X 58 0 f.s (·=[.str [],.str [],iD 0,iD 0]):=by
 have c0:=O8 hX hf.ok;have c1:=fun w=>bl2 (X:=X) (w:=w) hf
 have c2:=fun w=>bj7 (X:=X) (w:=w) hf
 have hn:=hf.n;have loop:∀(k i:Nat),i+k=f.comps.length→∀w,Rn F X 58 1 ([jD f.comps.length,jD i]++fA f w) (·=[.str [],.str [],iD 0,iD 0]):=by
  intro k
  induction k with
  |zero=>
   intro i hi w;exact wr rfl<|mK<|wn rfl af<|wt rfl rfl
  |succ k ih=>
   intro i hi w;have oB:i<f.comps.length:=by omega
   have c3:=bm3 (X:=X) (w:=w) hI hf (xc oB);have next:=ih (i+1) (by omega);refine wr rfl<|mK<|wy rfl af<|wg 1 rfl<|wx rfl c3 fun|_,⟨w3,rfl⟩=>⟨rfl,?_⟩
   exact DU<|wo rfl oA<|Wp.jump rfl (next _)
 have lp:=fun w=>loop f.comps.length 0 (by omega) w
 have r:=fun w n=>OC (X:=X) f w n
 have c0:Rn F X 41 0 [.str f.name,.sl (f.flags.map Fg.d),.sl (f.links.map Lk.d),.sl (f.comps.map Cm.s)] (·=[iD 0]):=c0;show Rn F X 58 0 [.str f.name,.sl (f.flags.map Fg.d),.sl (f.links.map Lk.d),.sl (f.comps.map Cm.s)] _;refine wr rfl<|wl rfl c0 rfl<|wl rfl (r _ _) rfl<|wg 1 rfl<|wx rfl (c1 _) fun|_,⟨w1,rfl⟩=>⟨rfl,?_⟩
 refine hO<|wg 1 rfl<|wx rfl (c2 _) fun|_,⟨w2,rfl⟩=>⟨rfl,?_⟩
 exact ol<|wo rfl (az (bW _ _))<|Wp.jump rfl (lp _)
end
section
variable{X:Nat→List D→Option (List D)}
theorem bc9{nf own:Nat}{ar:List (List Nat)}{c:Cm}{al:List Nat}(hc:gN nf ar own c)(bm:ar[own]? =some al)(dM:al.length≤3):Rn F X 70 0 [.str c.name,.sl (c.vars.map Vr.s),.sl (cr c.bt)] (·=[.sl (strs (bi 104 al.length))]):=by
 obtain⟨ints,tables,N3,i1,i3,t1,yW,Lv,mN,cx,⟨l0,rm,dh2⟩,iK⟩:=hc.rest;rw[bm] at yW;cases yW;have j5:∀(ae pre:List (List Hn)),c.bt=pre++ae→∀m,m≤al.length→(∀l∈pre,l.length≤m)→Rn F X 70 1 [.sl (strs (bi 104 m)),.sl (cr c.bt),jD c.bt.length,jD pre.length] (·=[.sl (strs (bi 104 al.length))]):=by
  intro ae
  induction ae with
  |nil=>
   intro pre hp m hm aR;rw[xj] at hp;have hp':pre.length=c.bt.length:=by rw[hp]
   have:al.length≤m:=by rw[←dh2];exact aR l0 (by rw[←hp];exact rm)
   obtain rfl:m=al.length:=by omega
   exact wr rfl<|wn rfl af<|wt rfl rfl
  |cons v ae ih=>
   intro pre hp m hm aR;have aF:=bj hp;have aq:(cr c.bt)[pre.length]? =some [.sl (v.map Hn.s)]:=bR (f:=fun l:List Hn=>[D.sl (l.map Hn.s)]) hp;have hv:=iK v (by rw[hp];simp);have next:=ih (pre++[v]) (by rw[hp,aV]);rw[xa] at next;have lh:∀(dA bp:List Hn),v=bp++dA→∀m,m≤al.length→(∀l∈pre,l.length≤m)→bp.length≤m→Rn F X 70 2 [.sl (strs (bi 104 m)),.sl (cr c.bt),jD c.bt.length,jD pre.length,.sl (v.map Hn.s),jD v.length,jD bp.length] (·=[.sl (strs (bi 104 al.length))]):=by
    intro dA
    induction dA with
    |nil=>
     intro bp bA m hm aR h3;rw[xj] at bA;subst bA;have next:=next m hm (fun l hl=>by rcases xF.1 hl with hl|hl;exact aR l hl;rw[xy] at hl;subst hl;exact h3);exact wr rfl<|wn rfl af<|wo rfl oA<|wj next
    |cons h dA lJ=>
     intro bp bA m hm aR h3;have vw:=bj bA;have gf:=bR (f:=Hn.s) bA;have ho:=(hv.2.2 bp.length h (uX bA)).name;have fe:=lJ (bp++[h]) (by rw[bA,aV]);rw[xa] at fe;obtain⟨h1,h2,h3'⟩:=h;simp only at ho;generalize hk:bp.length=k at*;subst ho;have hkl:k<al.length:=by omega
     rcases Nat.lt_or_ge k m with aX|dX
     ·have nx:=fe m hm aR (by show k+1≤m;omega);have:(m=1∧k=0)∨(m=2∧k=0)∨(m=2∧k=1)∨(m=3∧k=0)∨(m=3∧k=1)∨(m=3∧k=2):=by omega
      rcases this with⟨rfl,rfl⟩|⟨rfl,rfl⟩|⟨rfl,rfl⟩|⟨rfl,rfl⟩|⟨rfl,rfl⟩|⟨rfl,rfl⟩
      ·exact wr rfl<|wy rfl af<|wo rfl (aA gf rfl)<|wg 1 rfl<|cW<|wo rfl bl<|wg 4 rfl<|wo rfl oI<|wj nx
      ·exact wr rfl<|wy rfl af<|wo rfl (aA gf rfl)<|wg 1 rfl<|cW<|wo rfl bl<|wg 4 rfl<|wo rfl oI<|wj nx
      ·exact wr rfl<|wy rfl af<|wo rfl (aA gf rfl)<|wg 1 rfl<|cW<|wo rfl bl<|wg 8 rfl<|wo rfl oI<|dC<|wj nx
      ·exact wr rfl<|wy rfl af<|wo rfl (aA gf rfl)<|wg 1 rfl<|cW<|wo rfl bl<|wg 4 rfl<|wo rfl oI<|wj nx
      ·exact wr rfl<|wy rfl af<|wo rfl (aA gf rfl)<|wg 1 rfl<|cW<|wo rfl bl<|wg 8 rfl<|wo rfl oI<|dC<|wj nx
      ·exact wr rfl<|wy rfl af<|wo rfl (aA gf rfl)<|wg 1 rfl<|cW<|wo rfl bl<|wg 11 rfl<|dC<|wg 1 rfl<|wo rfl oI<|wj nx
     ·obtain rfl:k=m:=by omega
      have nx:=fe (k+1) (by omega) (fun l hl=>xH (aR l hl) (by omega)) (by show k+1≤k+1;omega);have:k=0∨k=1∨k=2:=by omega
      rcases this with rfl|rfl|rfl
      ·exact wr rfl<|wy rfl af<|wo rfl (aA gf rfl)<|wg 1 rfl<|cW<|wo rfl bl<|wg 4 rfl<|wo rfl oI<|dC<|wj nx
      ·exact wr rfl<|wy rfl af<|wo rfl (aA gf rfl)<|wg 1 rfl<|cW<|wo rfl bl<|wg 8 rfl<|dC<|wo rfl oI<|wj nx
      ·exact wr rfl<|wy rfl af<|wo rfl (aA gf rfl)<|wg 1 rfl<|cW<|wo rfl bl<|wg 11 rfl<|dC<|wg 1 rfl<|wo rfl oI<|wj nx
   exact wr rfl<|wy rfl af<|wo rfl (aA aq rfl)<|wg 1 rfl<|w6<|wo rfl (az (bW _ _))<|Wp.jump rfl (lh v [] rfl m hm aR (by simp))
 exact wr rfl<|wo rfl (az (xm _))<|Wp.jump rfl (j5 c.bt [] rfl 0 (by omega) (fun l h=>by cases h))
def qD(L:Nat)(r:List D):Prop:=∃(op:Nat) (a b n:Int),r=[bD op,.int .i64 a,.int .i64 b,.int .i64 n]∧op≤34∧(op=27∨op=28→0≤a∧a≤L)∧(op=32∨op=33→0≤b∧b≤L)∧0≤n∧n≤8
def fM(code:List (List D)):Prop:=∀r∈code,qD code.length r
theorem qD.mono{L L':Nat}(h:L≤L'){r:List D}(hr:qD L r):qD L' r:=by
 obtain⟨op,a,b,n,e,h1,h2,h3,h4,h5⟩:=hr;exact⟨op,a,b,n,e,h1,fun q=>⟨(h2 q).1,by have:=(h2 q).2;omega⟩,fun q=>⟨(h3 q).1,by have:=(h3 q).2;omega⟩,h4,h5⟩
theorem fM.snoc{code:List (List D)}(h:fM code){r:List D}(hr:qD code.length r):fM (code++[r]):=fun x hx=>by
 rw[xa];rcases xF.1 hx with hx|hx
 ·exact(h x hx).mono (by simp)
 ·rw[xy] at hx;subst hx;exact hr.mono (by simp)
theorem fM.Sd{code:List (List D)}(h:fM code){i:Nat}{v:Int}{r:List D}(hi:code[i]? =some r)(h0:0≤v)(h1:v≤code.length):fM (code.set i (r.take 1++[.int .i64 v]++r.drop 2)):=fun x hx=>by
 rw[xt];rcases List.mem_or_eq_of_mem_set hx with hx|hx
 ·exact h x hx
 ·obtain⟨op,a,b,n,e,q1,q2,q3,q4⟩:=h r (xu hi);subst e;subst hx;exact⟨op,v,b,n,rfl,q1,fun _=>⟨h0,h1⟩,q3,q4⟩
theorem fM.ay9{code:List (List D)}(h:fM code){i:Nat}{v:Int}{r:List D}(hi:code[i]? =some r)(h0:0≤v)(h1:v≤code.length):fM (code.set i (r.take 2++[.int .i64 v]++r.drop 3)):=fun x hx=>by
 rw[xt];rcases List.mem_or_eq_of_mem_set hx with hx|hx
 ·exact h x hx
 ·obtain⟨op,a,b,n,e,q1,q2,q3,q4⟩:=h r (xu hi);subst e;subst hx;exact⟨op,a,v,n,rfl,q1,q2,fun _=>⟨h0,h1⟩,q4⟩
theorem Pm{code:List (List D)}(h:fM code){i:Nat}(hi:i<code.length){v:Int}:∃r,code[i]? =some r∧aN (.fO 1) [.sl code,jD i,.int .i64 v]=some (.sl (code.set i (r.take 1++[.int .i64 v]++r.drop 2))):=by
 obtain⟨op,a,b,n,e,_⟩:=h code[i] (List.getElem_mem hi);refine⟨code[i],xc hi,?_⟩;show(code[i]?).bind _=_;rw[xc hi,e];rfl
theorem XG{code:List (List D)}(h:fM code){i:Nat}(hi:i<code.length){v:Int}:∃r,code[i]? =some r∧aN (.fO 2) [.sl code,jD i,.int .i64 v]=some (.sl (code.set i (r.take 2++[.int .i64 v]++r.drop 3))):=by
 obtain⟨op,a,b,n,e,_⟩:=h code[i] (List.getElem_mem hi);refine⟨code[i],xc hi,?_⟩;show(code[i]?).bind _=_;rw[xc hi,e];rfl
structure Cp where
 f:dK
 hs:List (List aL)
 own:Nat
 vars:List aL
 tables:List aL
 flags:List aL
 params:List aL
abbrev gm(p:Cp)(code:List (List D)):List D:=[.str p.f.name,.sl (p.f.flags.map Fg.d),.sl (p.f.links.map Lk.d),.sl (p.f.comps.map Cm.s),.sl (p.hs.map fun l=>[.sl (strs l)]),jD p.own,.sl (strs p.vars),.sl (strs p.tables),.sl (strs p.flags),.sl (strs p.params),.sl code]
structure Cp.Ok (p:Cp):Prop where
 v:p.vars.length≤1000
 t:p.tables.length≤1000
 f:p.flags.length≤1000
 p:p.params.length≤1000
def oE(p:Cp)(code:List (List D))(m:Nat)(o:List D):Prop:=∃eW,o=gm p eW∧fM eW∧code.length≤eW.length∧eW.length≤code.length+m
theorem cQ7{L op:Nat}{a b n:Int}(h1:op≤34)(h2:op≠27∧op≠28∧op≠32∧op≠33)(h3:0≤n)(h4:n≤8):qD L [bD op,.int .i64 a,.int .i64 b,.int .i64 n]:=⟨op,a,b,n,rfl,h1,fun h=>by omega,fun h=>by omega,h3,h4⟩
end
end Go.Proofs.YtnjdjocokegphaaGreatDoor
namespace Go.Fl
open Go.Ex
mutual
def Ex.sz:Ex→Nat| .mk _ _ _ args=>Ex.iI args+1
def Ex.iI:List Ex→Nat|[]=>0|e::l=>Ex.sz e+Ex.iI l
end
theorem Ex.WH:∀(l:List Ex) (a:Ex),Ex.iI (l++[a])=Ex.iI l+a.sz
 |[],a=>by simp[Ex.iI]
 |e::l,a=>by simp only [List.cons_append,Ex.iI,Ex.WH l a];omega
theorem ke.sz{e:Ex}(h:ke iC e):e.sz+1≤2^e.dp:=by
 induction h with
 | @mk op name n args hn ha ih=>
  obtain⟨h1,h2,h3,h4,h5⟩:=hn.get;have eu:args.length≤2:=by rw[h3];unfold jU;split<;>(try split)<;>omega
  have hd:∀a∈args,a.sz+1≤2^Ex.dU args:=fun a ha=>xH (ih a ha) (Nat.pow_le_pow_right (by omega) (Ex.PK ha))
  have h1:1≤2^Ex.dU args:=Nat.one_le_two_pow;simp only [Ex.sz,Ex.dp,Nat.pow_succ]
  match args,eu,hd with
  |[],_,_=>simp only [Ex.iI];omega
  |[a],_,hd=>have:=hd a (by simp);simp only [Ex.iI];omega
  |[a,b],_,hd=>have:=hd a (by simp);have:=hd b (by simp);simp only [Ex.iI];omega
theorem ke.sz6{e:Ex}(h:ke iC e)(hd:e.dp≤6):e.sz≤63:=by
 have:=h.sz;have:2^e.dp≤2^6:=Nat.pow_le_pow_right (by omega) hd;omega
end Go.Fl
namespace Go.Proofs.YtnjdjocokegphaaGreatDoor
open Go.Ex Go.RowKit Go.Fl
section
variable{X:Nat→List D→Option (List D)}
theorem bt3{l:List aL}{s:aL}{o:List D}(h:TX l s o):∃i:Int,o=[.int .i64 i]:=by
 rcases h with⟨_,i,rfl,_⟩|⟨_,rfl⟩
 ·exact⟨i,rfl⟩
 ·exact⟨-1,rfl⟩
theorem pc{l:List aL}(hl:l.length≤1000)(s:aL):Rn F X 43 0 [.sl (strs l),.str s] (fun o=>∃i:Int,o=[.int .i64 i]):=(B3 hl s).mono fun _ h=>bt3 h
theorem rJ{c:Nat}{n:Nat}(h:n≤1000000):aN (.bin .sub c) [jD n,.int .i64 1]=some (.int .i64 ((n:Int) - 1)):=rK (by omega) (by omega)
theorem lu{L:Nat}{op a b n:Int}(h0:0≤op∧op≤34)(h2:op≠27∧op≠28∧op≠32∧op≠33)(h3:0≤n∧n≤8):qD L [.int .u8 op,.int .i64 a,.int .i64 b,.int .i64 n]:=by
 obtain⟨k,rfl⟩:=Int.eq_ofNat_of_zero_le h0.1;exact cQ7 (by omega) (by omega) h3.1 h3.2
theorem grow{p:Cp}{code:List (List D)}{r:List D}(hc:fM code)(hr:qD code.length r):oE p code 1 (gm p (code++[r])):=⟨_,rfl,hc.snoc hr,by simp,by simp⟩
theorem bm4{p:Cp}(hp:p.Ok){code:List (List D)}(hc:fM code)(hl:code.length≤100000)(s:aL):Rn F X 72 0 (gm p code++[.str s]) (oE p code 1):=by
 obtain⟨f,hs,own,vars,tables,flags,params⟩:=p;refine wr rfl<|wg 1 rfl<|wx rfl (pc hp.p _) fun|_,⟨i1,rfl⟩=>⟨rfl,?_⟩
 refine Wp.aQ rfl yd (fun h=> ?_) (fun h=> ?_)
 ·exact wg 2 rfl<|wo rfl oP<|dC<|wo rfl (az (n:=code.length+1) (by simp))<|wo rfl (rJ (by omega))<|wt rfl (grow hc (lu (by omega) (by omega) (by omega)))
 ·refine wg 1 rfl<|wx rfl (pc hp.v _) fun|_,⟨i2,rfl⟩=>⟨rfl,?_⟩
  refine Wp.aQ rfl yd (fun h=> ?_) (fun h=> ?_)
  ·exact wg 2 rfl<|dC<|wo rfl oP<|wo rfl (az (n:=code.length+1) (by simp))<|wo rfl (rJ (by omega))<|wt rfl (grow hc (lu (by omega) (by omega) (by omega)))
  ·refine wg 1 rfl<|wx rfl (pc hp.f _) fun|_,⟨i3,rfl⟩=>⟨rfl,?_⟩
   exact dC<|wg 2 rfl<|wo rfl oP<|wo rfl (az (n:=code.length+1) (by simp))<|wo rfl (rJ (by omega))<|fJ<|wt rfl (grow hc (lu (by omega) (by omega) (by omega)))
theorem bm7{p:Cp}(hp:p.Ok){e:Fl.Ex}(h:ke iC e):∀{code:List (List D)},fM code→code.length+e.sz≤100000→Rn F X 73 0 (gm p code++Ex.s e) (oE p code e.sz):=by
 induction h with
 | @mk op name n args hn ha ih=>
  intro code hc hl;obtain⟨h1,h2,h3,h4,h5⟩:=hn.get;simp only [Ex.sz] at hl⊢;have eu:args.length≤2:=by rw[h3];unfold jU;split<;>(try split)<;>omega
  have fj:Rn F X 74 0 (gm p code++[.sl (Ex.ss args)]) (oE p code (Ex.iI args)):=by
   have loop:∀(ae pre:List Fl.Ex),args=pre++ae→∀eW,fM eW→code.length≤eW.length→eW.length≤code.length+Ex.iI pre→Rn F X 74 1 ([.sl (Ex.ss args),jD args.length,jD pre.length]++gm p eW) (oE p code (Ex.iI args)):=by
    intro ae
    induction ae with
    |nil=>
     intro pre aH eW gT q1 q2;rw[xj] at aH;subst aH;obtain⟨f,hs,own,vars,tables,flags,params⟩:=p;exact wr rfl<|kf<|wn rfl af<|wt rfl ⟨eW,rfl,gT,q1,q2⟩
    |cons a ae cZ=>
     intro pre aH eW gT q1 q2;have aF:=bj aH;have aq:(Ex.ss args)[pre.length]? =some (Ex.s a):=by rw[aH];exact rN _ _ _
     have aU:Ex.iI args=Ex.iI pre+(a.sz+Ex.iI ae):=by
      rw[aH];clear aF aq cZ q2 aH
      induction pre with
      |nil=>simp[Ex.iI]
      |cons x pre ihp=>simp only [List.cons_append,Ex.iI,ihp];omega
     have c1:=ih a (by rw[aH];simp) (code:=eW) gT (by omega);have next:=cZ (pre++[a]) (by rw[aH,aV]);rw[Ex.WH,xa] at next;obtain⟨o1,n1,i1,a1⟩:=a;obtain⟨f,hs,own,vars,tables,flags,params⟩:=p;refine wr rfl<|kf<|wy rfl af<|wo rfl (aA aq rfl)<|wg 1 rfl<|fJ<|wg 1 rfl<|wx rfl c1 fun|_,⟨bk,rfl,bY,q3,q4⟩=>⟨rfl,?_⟩
     exact ol<|wo rfl oA<|Wp.jump rfl (next bk bY (by omega) (by omega))
   have:=loop args [] rfl code hc (by omega) (by simp[Ex.iI]);obtain⟨f,hs,own,vars,tables,flags,params⟩:=p;exact wr rfl<|wo rfl (az (jf _))<|wj this
  have fin:∀{bk:List (List D)} {r:List D},fM bk→code.length≤bk.length→bk.length≤code.length+Ex.iI args→qD bk.length r→oE p code (Ex.iI args+1) (gm p (bk++[r])):=fun h1 h2 h3 h4=>⟨_,rfl,h1.snoc h4,by rw[xa];omega,by rw[xa];show _+1≤_;omega⟩
  have cn:=fun(bk:List (List D)) (h:fM bk) (hl:bk.length≤100000)=>bm4 (X:=X) hp h hl name
  have hn8:(0:Int)≤n∧(n:Int)≤8:=by omega
  obtain⟨f,hs,own,vars,tables,flags,params⟩:=p;have tY:op=1∨op=2∨op=3∨op=4∨op=5∨op=6∨op=7∨op=8∨9≤op:=by omega
  rcases tY with rfl|rfl|rfl|rfl|rfl|rfl|rfl|rfl|tY
  ·refine wr rfl<|dC<|wg 1 rfl<|wx rfl fj fun|_,⟨bk,rfl,bY,q1,q2⟩=>⟨rfl,?_⟩
   exact mJ<|wg 3 rfl<|wo rfl oP<|wo rfl (az (n:=bk.length+1) (by simp))<|wo rfl (rJ (by omega))<|ol<|wt rfl (fin bY q1 q2 (lu (by omega) (by omega) (by omega)))
  ·refine wr rfl<|dC<|wg 1 rfl<|wx rfl fj fun|_,⟨bk,rfl,bY,q1,q2⟩=>⟨rfl,?_⟩
   exact mJ<|wg 4 rfl<|wo rfl oP<|wo rfl (az (n:=bk.length+1) (by simp))<|wo rfl (rJ (by omega))<|ol<|wt rfl (fin bY q1 q2 (lu (by omega) (by omega) (by omega)))
  ·refine wr rfl<|dC<|wg 1 rfl<|wx rfl fj fun|_,⟨bk,rfl,bY,q1,q2⟩=>⟨rfl,?_⟩
   exact mJ<|wg 5 rfl<|wo rfl oP<|wo rfl (az (n:=bk.length+1) (by simp))<|wo rfl (rJ (by omega))<|ol<|wt rfl (fin bY q1 q2 (lu (by omega) (by omega) (by omega)))
  ·refine wr rfl<|dC<|wg 1 rfl<|wx rfl fj fun|_,⟨bk,rfl,bY,q1,q2⟩=>⟨rfl,?_⟩
   exact mJ<|wg 6 rfl<|wo rfl oP<|wo rfl (az (n:=bk.length+1) (by simp))<|wo rfl (rJ (by omega))<|ol<|wt rfl (fin bY q1 q2 (lu (by omega) (by omega) (by omega)))
  ·refine wr rfl<|dC<|wg 1 rfl<|wx rfl fj fun|_,⟨bk,rfl,bY,q1,q2⟩=>⟨rfl,?_⟩
   refine mJ<|wg 6 rfl<|wx rfl (cn bk bY (by omega)) fun|_,⟨rX,rfl,pX,q3,q4⟩=>⟨rfl,?_⟩
   dsimp only [dS,Ex.r,St.r,List.cons_append,List.nil_append,jT,jS,jR,jQ,jP,Ex.s,gm];exact wt rfl ⟨rX,rfl,pX,by omega,by omega⟩
  ·refine wr rfl<|dC<|wg 1 rfl<|wx rfl fj fun|_,⟨bk,rfl,bY,q1,q2⟩=>⟨rfl,?_⟩
   refine mJ<|wg 7 rfl<|wx rfl (pc hp.t _) fun|_,⟨i1,rfl⟩=>⟨rfl,?_⟩
   exact wg 2 rfl<|wo rfl oP<|wo rfl (az (n:=bk.length+1) (by simp))<|ol<|wo rfl (rJ (by omega))<|wt rfl (fin bY q1 q2 (lu (by omega) (by omega) (by omega)))
  ·refine wr rfl<|dC<|wg 1 rfl<|wx rfl fj fun|_,⟨bk,rfl,bY,q1,q2⟩=>⟨rfl,?_⟩
   refine mJ<|wg 8 rfl<|wx rfl (pc hp.t _) fun|_,⟨i1,rfl⟩=>⟨rfl,?_⟩
   exact wg 2 rfl<|wo rfl oP<|wo rfl (az (n:=bk.length+1) (by simp))<|ol<|wo rfl (rJ (by omega))<|wt rfl (fin bY q1 q2 (lu (by omega) (by omega) (by omega)))
  ·refine wr rfl<|dC<|wg 1 rfl<|wx rfl fj fun|_,⟨bk,rfl,bY,q1,q2⟩=>⟨rfl,?_⟩
   refine mJ<|wg 9 rfl<|wx rfl (pc hp.t _) fun|_,⟨i1,rfl⟩=>⟨rfl,?_⟩
   exact wg 2 rfl<|wo rfl oP<|wo rfl (az (n:=bk.length+1) (by simp))<|ol<|wo rfl (rJ (by omega))<|wt rfl (fin bY q1 q2 (lu (by omega) (by omega) (by omega)))
  ·refine wr rfl<|dC<|wg 1 rfl<|wx rfl fj fun|_,⟨bk,rfl,bY,q1,q2⟩=>⟨rfl,?_⟩
   exact mJ<|wn rfl au<|wn rfl au<|wn rfl au<|wn rfl au<|wn rfl au<|wn rfl au<|wn rfl au<|wn rfl au<|wg 2 rfl<|wo rfl oP<|wo rfl (az (n:=bk.length+1) (by simp))<|wo rfl (rJ (by omega))<|ol<|wt rfl (fin bY q1 q2 (lu (by omega) (by omega) (by omega)))
end
section
variable{X:Nat→List D→Option (List D)}
theorem be8{p:Cp}(hp:p.Ok){l:List Fl.Ex}(dM:l.length≤3)(h:∀e∈l,ke iC e∧e.dp≤6){code:List (List D)}(hc:fM code)(hl:code.length≤50000):Rn F X 74 0 (gm p code++[.sl (Ex.ss l)]) (oE p code (63*l.length)):=by
 have loop:∀(ae pre:List Fl.Ex),l=pre++ae→∀eW,fM eW→code.length≤eW.length→eW.length≤code.length+63*pre.length→Rn F X 74 1 ([.sl (Ex.ss l),jD l.length,jD pre.length]++gm p eW) (oE p code (63*l.length)):=by
  intro ae
  induction ae with
  |nil=>
   intro pre aH eW gT q1 q2;rw[xj] at aH;subst aH;obtain⟨f,hs,own,vars,tables,flags,params⟩:=p;exact wr rfl<|kf<|wn rfl af<|wt rfl ⟨eW,rfl,gT,q1,q2⟩
  |cons a ae cZ=>
   intro pre aH eW gT q1 q2;have aF:=bj aH;have aq:(Ex.ss l)[pre.length]? =some (Ex.s a):=by rw[aH];exact rN _ _ _
   have ha:=h a (by rw[aH];simp);have aU:=ha.1.sz6 ha.2;have c1:=bm7 (X:=X) hp ha.1 gT (by omega);have next:=cZ (pre++[a]) (by rw[aH,aV]);rw[xa] at next;have e1:pre.length+[a].length=pre.length+1:=rfl;rw[e1] at next;obtain⟨o1,n1,i1,a1⟩:=a;obtain⟨f,hs,own,vars,tables,flags,params⟩:=p;refine wr rfl<|kf<|wy rfl af<|wo rfl (aA aq rfl)<|wg 1 rfl<|fJ<|wg 1 rfl<|wx rfl c1 fun|_,⟨bk,rfl,bY,q3,q4⟩=>⟨rfl,?_⟩
   exact ol<|wo rfl oA<|Wp.jump rfl (next bk bY (by omega) (by omega))
 have:=loop l [] rfl code hc (by omega) (by simp);obtain⟨f,hs,own,vars,tables,flags,params⟩:=p;exact wr rfl<|wo rfl (az (jf _))<|wj this
theorem aY6{ar:List (List Nat)}{f:dK}(hf:gZ ar f){i:Nat}(hi:i<ar.length){k:Nat}{hn:aL}{E T L:List (List D)}:Rn F X 71 0 [.sl (f.comps.map Cm.s),.ptr [bD k,.str [(97+i).toUInt8],.str hn,.sl E,.sl T,.sl L] 0] (·=[jD i]):=by
 have ww:=hf.n;have loop:∀(ae pre:List Cm),f.comps=pre++ae→pre.length≤i→Rn F X 71 1 [.sl (f.comps.map Cm.s),.ptr [bD k,.str [(97+i).toUInt8],.str hn,.sl E,.sl T,.sl L] 0,jD f.comps.length,jD pre.length] (·=[jD i]):=by
  intro ae
  induction ae with
  |nil=>
   intro pre hp aR;rw[xj] at hp;have:pre.length=f.comps.length:=by rw[hp]
   omega
  |cons a ae ih=>
   intro pre hp aR;have aF:=bj hp;have aq:=bR (f:=Cm.s) hp;have ia:=(hf.comps pre.length a (uX hp)).name;by_cases hs:pre.length=i
   ·obtain⟨a1,a2,a3⟩:=a;simp only at ia;rw[hs] at ia aq⊢;exact wr rfl<|wy rfl af<|wo rfl (aA aq rfl)<|wg 1 rfl<|w8<|wg 2 rfl<|Wp.dB rfl mm ia<|wt rfl rfl
   ·have next:=ih (pre++[a]) (by rw[hp,aV]) (by simp;omega);rw[xa] at next;have bq:a.name≠[(97+i).toUInt8]:=fun e=>hs (E6 (by omega) (by omega) (by rw[←ia,e]))
    obtain⟨a1,a2,a3⟩:=a;simp only at bq;exact wr rfl<|wy rfl af<|wo rfl (aA aq rfl)<|wg 1 rfl<|w8<|wg 2 rfl<|Wp.cN rfl mm bq<|wo rfl oA<|wj next
 exact wr rfl<|wo rfl (az (bW _ _))<|Wp.jump rfl (loop f.comps [] rfl (by simp))
structure TY (ar:List (List Nat)) (p:Cp):Prop where
 ok:p.Ok
 f:gZ ar p.f
 hs:p.hs.length=ar.length
 hl:∀l∈p.hs,l.length≤1000
 own:p.own<p.hs.length
def OtQ(p:Cp)(code:List (List D))(m:Nat)(o:List D):Prop:=∃(t:Int) (eW:List (List D)),o= .int .i64 t::gm p eW∧fM eW∧code.length≤eW.length∧eW.length≤code.length+m∧0≤t∧t≤eW.length
theorem bi4{p:Cp}{l:List St}(hb:∀code,fM code→code.length+200*St.ns l≤40000→Rn F X 77 0 (gm p code++[.sl (St.ss l)]) (oE p code (200*St.ns l))){code:List (List D)}(hc:fM code)(hl:code.length+200*St.ns l+1≤40000):Rn F X 75 0 (gm p code++[.sl (St.ss l)]) (OtQ p code (200*St.ns l+1)):=by
 have kL:=mW l;rcases xI l.length with h0|h0
 ·obtain⟨f,hs,own,vars,tables,flags,params⟩:=p;exact wr rfl<|wo rfl (az (n:=l.length) (lR _))<|wy rfl au<|wo rfl bl<|wt rfl ⟨_,code,rfl,hc,by omega,by omega,by omega,by omega⟩
 ·have uC:=hc.snoc (r:=[bD 27,.int .i64 0,.int .i64 0,.int .i64 0]) ⟨27,0,0,0,rfl,by omega,fun _=>by omega,fun _=>by omega,by omega,by omega⟩;have b1:=hb _ uC (by rw[xa];show code.length+1+_≤_;omega);obtain⟨f,hs,own,vars,tables,flags,params⟩:=p;refine wr rfl<|wo rfl (az (n:=l.length) (lR _))<|wn rfl au<|wg 2 rfl<|wo rfl oP<|dC<|wo rfl (az (n:=code.length+1) (by simp))<|wo rfl oW<|wo rfl (az (n:=code.length+1) (by simp))<|wg 1 rfl<|wx rfl b1 fun|_,⟨bk,rfl,bY,q1,q2⟩=>⟨rfl,?_⟩
  refine MV<|wo rfl bl ?_;rw[xa] at q1 q2;have q1:code.length+1≤bk.length:=q1;have q2:bk.length≤code.length+1+200*St.ns l:=q2;obtain⟨r,hr,bc⟩:=Pm bY (i:=code.length+1 - 1) (by omega) (v:=bk.length);have pX:=bY.Sd hr (v:=bk.length) (by omega) (by omega);exact wy rfl YJ<|wo rfl bc<|wt rfl ⟨_,_,rfl,pX,by rw[xt];omega,by rw[xt];omega,by omega,by rw[xt];omega⟩
theorem fm{rows:List (List D)}{k n:Nat}(h:rows.length=n):aN .jF [.sl rows,jD k]=some (.bool (decide (k<n))):=by rw[←h];rfl
theorem uG{p:Cp}{code bk:List (List D)}{m:Nat}(h:fM bk)(h1:code.length≤bk.length)(h2:bk.length≤code.length+m):oE p code m (gm p bk):=⟨bk,rfl,h,h1,h2⟩
theorem LU{L:Nat}{op a b n:Int}(h0:0≤op∧op≤34)(h1:0≤a∧a≤L)(h2:0≤b∧b≤L)(h3:0≤n∧n≤8):qD L [.int .u8 op,.int .i64 a,.int .i64 b,.int .i64 n]:=by
 obtain⟨k,rfl⟩:=Int.eq_ofNat_of_zero_le h0.1;exact⟨k,a,b,n,rfl,by omega,fun _=>h1,fun _=>h2,h3.1,h3.2⟩
theorem cQ8{L:Nat}{a n:Int}{op:Int}(h0:op=33)(h3:0≤n∧n≤8):qD L [.int .u8 op,.int .i64 a,.int .i64 0,.int .i64 n]:=by
 subst h0;exact⟨33,a,0,n,rfl,by omega,fun h=>by omega,fun _=>by omega,h3.1,h3.2⟩
theorem bm1{ar:List (List Nat)}{p:Cp}(hp:TY ar p){w:Wd}(hw:w.Ok)(U5:w.ar=ar){B:List St→Prop}{s:St}(hs:lD w B s)(hn:s.n≤12)
 (hb:∀l:List St,(l=[]∨B l)→St.ns l<s.n→∀code,fM code→code.length+200*St.ns l≤40000→Rn F X 77 0 (gm p code++[.sl (St.ss l)]) (oE p code (200*St.ns l)))
 {code:List (List D)} (hc:fM code) (hl:code.length+200*s.n≤40000):Rn F X 76 0 (gm p code++St.s s) (oE p code (200*s.n)):=by
 have ja:=hs.node hw hn;have uC:=hc.snoc (r:=[.int .u8 29,.int .i64 0,.int .i64 0,.int .i64 0]) (lu (by omega) (by omega) (by omega));have ex:=fun(l:List Fl.Ex) (h1:l.length≤3) (h2:∀e∈l,ke iC e∧e.dp≤6)=>be8 (X:=X) hp.ok h1 h2 uC (by rw[xa];show code.length+1≤_;omega)
 have jK:(code++[[D.int .u8 29,D.int .i64 0,D.int .i64 0,D.int .i64 0]]).length=code.length+1:=by simp
 have bS:=fun l h1 h2 (bk:List (List D)) h3 h4=>hb l h1 h2 bk h3 h4
 have oS:=fun l h1 h2 (bk:List (List D)) (h3:fM bk) (h4:bk.length+200*St.ns l+1≤40000)=>bi4 (X:=X) (p:=p) (l:=l) (hb l h1 h2) h3 h4
 have H8:=hp.ok;have kD:=hp.own;cases hs with
 | @my k h e he=>
  have kv:=ex [e] (by simp) ja.ex;obtain⟨f,hs,own,vars,tables,flags,params⟩:=p;refine wr rfl<|fK<|wg 2 rfl<|wo rfl oP<|wo rfl (az jK)<|wo rfl oW<|eH<|wg 1 rfl ?_
  (refine wx rfl kv fun|_,⟨bk,rfl,bY,q1,q2⟩=>⟨rfl,?_⟩;rw[jK] at q1 q2;try simp only [xi,xd] at q2)
  refine gP<|wg 2 rfl<|wx rfl (pc H8.v _) fun|_,⟨i1,rfl⟩=>⟨rfl,?_⟩
  exact wg 2 rfl<|wo rfl oP<|wo rfl (az (n:=bk.length+1) (by simp))<|iW<|wo rfl oW<|wt rfl (uG (bY.snoc (lu (by omega) (by omega) (by omega))) (by simp;omega) (by simp[St.n,St.ns] at*;omega))
 | @Dg e he=>
  have kv:=ex [e] (by simp) ja.ex;obtain⟨f,hs,own,vars,tables,flags,params⟩:=p;refine wr rfl<|fK<|wg 2 rfl<|wo rfl oP<|wo rfl (az jK)<|wo rfl oW<|eH<|wg 1 rfl ?_
  (refine wx rfl kv fun|_,⟨bk,rfl,bY,q1,q2⟩=>⟨rfl,?_⟩;rw[jK] at q1 q2;try simp only [xi,xd] at q2)
  refine gP<|wg 2 rfl<|wx rfl (pc H8.v _) fun|_,⟨i1,rfl⟩=>⟨rfl,?_⟩
  exact wg 2 rfl<|wo rfl oP<|wo rfl (az (n:=bk.length+1) (by simp))<|iW<|wo rfl oW<|wt rfl (uG (bY.snoc (lu (by omega) (by omega) (by omega))) (by simp;omega) (by simp[St.n,St.ns] at*;omega))
 | @put h a b ha cg=>
  have kv:=ex [a,b] (by simp) ja.ex;obtain⟨f,hs,own,vars,tables,flags,params⟩:=p;refine wr rfl<|fK<|wg 2 rfl<|wo rfl oP<|wo rfl (az jK)<|wo rfl oW<|eH<|wg 1 rfl ?_
  (refine wx rfl kv fun|_,⟨bk,rfl,bY,q1,q2⟩=>⟨rfl,?_⟩;rw[jK] at q1 q2;try simp only [xi,xd] at q2)
  refine gP<|wg 3 rfl<|wx rfl (pc H8.t _) fun|_,⟨i1,rfl⟩=>⟨rfl,?_⟩
  exact wg 2 rfl<|wo rfl oP<|wo rfl (az (n:=bk.length+1) (by simp))<|iW<|wo rfl oW<|wt rfl (uG (bY.snoc (lu (by omega) (by omega) (by omega))) (by simp;omega) (by simp[St.n,St.ns] at*;omega))
 | @del h a ha=>
  have kv:=ex [a] (by simp) ja.ex;obtain⟨f,hs,own,vars,tables,flags,params⟩:=p;refine wr rfl<|fK<|wg 2 rfl<|wo rfl oP<|wo rfl (az jK)<|wo rfl oW<|eH<|wg 1 rfl ?_
  (refine wx rfl kv fun|_,⟨bk,rfl,bY,q1,q2⟩=>⟨rfl,?_⟩;rw[jK] at q1 q2;try simp only [xi,xd] at q2)
  refine gP<|wg 4 rfl<|wx rfl (pc H8.t _) fun|_,⟨i1,rfl⟩=>⟨rfl,?_⟩
  exact wg 2 rfl<|wo rfl oP<|wo rfl (az (n:=bk.length+1) (by simp))<|iW<|wo rfl oW<|wt rfl (uG (bY.snoc (lu (by omega) (by omega) (by omega))) (by simp;omega) (by simp[St.n,St.ns] at*;omega))
 | @cond e he th el h1 h2=>
  have kv:=ex [e] (by simp) ja.ex;simp only [St.n] at hn hl⊢;obtain⟨f,hs,own,vars,tables,flags,params⟩:=p;refine wr rfl<|fK<|wg 2 rfl<|wo rfl oP<|wo rfl (az jK)<|wo rfl oW<|eH<|wg 1 rfl ?_
  (refine wx rfl kv fun|_,⟨bk,rfl,bY,q1,q2⟩=>⟨rfl,?_⟩;rw[jK] at q1 q2;try simp only [xi,xd] at q2)
  refine gP<|wg 6 rfl<|wo rfl oP<|wo rfl (az (n:=bk.length+1) (by simp))<|wo rfl oW<|iW<|wg 1 rfl ?_
  (refine wx rfl (bS th (.inr h1) (by simp only [St.n];omega) _ (bY.snoc (LU (by omega) (by omega) (by omega) (by omega))) (by simp;omega)) fun|_,⟨rX,rfl,pX,q3,q4⟩=>⟨rfl,?_⟩;rw[xa] at q3 q4)
  refine Hz<|wg 1 rfl<|wx rfl (oS el (.inr h2) (by simp only [St.n];omega) rX pX (by simp at q3 q4;omega)) fun|_,⟨t,ao3,rfl,pW,q5,q6,q7,q8⟩=>⟨rfl,?_⟩
  simp only [xi,xd] at q3 q4;obtain⟨r,hr,bc⟩:=Pm pW (i:=bk.length+1 - 1) (by omega) (v:=t);have Bp:=pW.Sd hr (v:=t) q7 q8;exact wy rfl YJ<|wo rfl bc<|wt rfl ⟨_,rfl,Bp,by rw[xt];omega,by rw[xt];omega⟩
 | @G3 e he th h1=>
  have kv:=ex [e] (by simp) ja.ex;simp only [St.n] at hn hl⊢;obtain⟨f,hs,own,vars,tables,flags,params⟩:=p;have Ee:((code.length+1 - 1:Nat):Int)=(code.length:Int):=by omega
  refine wr rfl<|fK<|wg 2 rfl<|wo rfl oP<|wo rfl (az jK)<|wo rfl oW<|eH<|wg 1 rfl ?_
  (refine wx rfl kv fun|_,⟨bk,rfl,bY,q1,q2⟩=>⟨rfl,?_⟩;rw[jK] at q1 q2;try simp only [xi,xd] at q2)
  refine gP<|wg 7 rfl<|wo rfl oP<|wo rfl (az (n:=bk.length+1) (by simp))<|wo rfl oW<|iW<|wg 1 rfl ?_
  (refine wx rfl (bS th (.inr h1) (by simp only [St.n];omega) _ (bY.snoc (LU (by omega) (by omega) (by omega) (by omega))) (by simp;omega)) fun|_,⟨rX,rfl,pX,q3,q4⟩=>⟨rfl,?_⟩;rw[xa] at q3 q4)
  refine Hz<|wg 2 rfl ?_;simp only [xi,xd] at q3 q4;refine wo rfl oP<|wo rfl (az (n:=rX.length+1) (by simp))<|wo rfl oW<|A9<|wo rfl (az (n:=rX.length+1) (by simp)) ?_;have pW:fM (rX++[[D.int .u8 27,jD (code.length+1 - 1),D.int .i64 0,D.int .i64 0]]):=pX.snoc (LU (by omega) (by omega) (by omega) (by omega));have hl4:(rX++[[D.int .u8 27,jD (code.length+1 - 1),D.int .i64 0,D.int .i64 0]]).length=rX.length+1:=by simp
  obtain⟨r,hr,bc⟩:=Pm pW (i:=bk.length+1 - 1) (by omega) (v:=((rX.length+1:Nat):Int));have Bp:=pW.Sd hr (v:=((rX.length+1:Nat):Int)) (by omega) (by omega);exact wy rfl (fm hl4)<|wo rfl bc<|wt rfl ⟨_,rfl,Bp,by rw[xt];omega,by rw[xt];omega⟩
 | @send i h n l hi' hh es he gH=>
  have kv:=ex es (by have:=ja.ln;simp at this;omega) ja.ex;simp only [St.n] at hn hl⊢;obtain⟨f,hs,own,vars,tables,flags,params⟩:=p;have cb:es.length≤3:=by have:=ja.ln;simp at this;omega
  have El:i<ar.length:=by rw[←U5];exact jB hi'
  have x71:=aY6 (X:=X) hp.f El (k:=6) (hn:=nm 104 h) (E:=Ex.ss es) (T:=[]) (L:=[]);have sP:i<hs.length:=by have:=hp.hs;simp only at this;omega
  have aq:(hs.map fun l=>[D.sl (strs l)])[i]? =some [.sl (strs hs[i])]:=by rw[xx,xc sP];rfl
  have Tw:=hp.hl hs[i] (List.getElem_mem sP);have dG3:(((Ex.ss es).length:Nat):Int)=(es.length:Int):=by rw[jf]
  refine wr rfl<|fK<|wg 2 rfl<|wo rfl oP<|wo rfl (az jK)<|wo rfl oW<|eH<|wg 1 rfl ?_
  (refine wx rfl kv fun|_,⟨bk,rfl,bY,q1,q2⟩=>⟨rfl,?_⟩;rw[jK] at q1 q2;try simp only [xi,xd] at q2)
  refine gP<|wg 8 rfl<|wL rfl x71 rfl<|wo rfl (aA aq rfl)<|wg 1 rfl<|iW<|wo rfl (az (jf es))<|wg 1 rfl<|wx rfl (pc Tw _) fun|_,⟨i9,rfl⟩=>⟨rfl,?_⟩
  exact wg 2 rfl<|wo rfl oP<|lE<|wo rfl (az (n:=bk.length+1) (by simp))<|wo rfl oW<|wt rfl (uG (bY.snoc (lu (by omega) (by omega) (by omega))) (by simp;omega) (by simp[St.n,St.ns] at*;omega))
 | @DM h n l hi' hh es he gH=>
  have kv:=ex es (by have:=ja.ln;simp at this;omega) ja.ex;simp only [St.n] at hn hl⊢;obtain⟨f,hs,own,vars,tables,flags,params⟩:=p;have cb:1≤es.length∧es.length≤3:=by have:=ja.ln;simp at this;omega
  have sP:own<hs.length:=kD;have aq:(hs.map fun l=>[D.sl (strs l)])[own]? =some [.sl (strs hs[own])]:=by rw[xx,xc sP];rfl
  have Tw:=hp.hl hs[own] (List.getElem_mem sP);refine wr rfl<|fK<|wg 2 rfl<|wo rfl oP<|wo rfl (az jK)<|wo rfl oW<|eH<|wg 1 rfl ?_
  (refine wx rfl kv fun|_,⟨bk,rfl,bY,q1,q2⟩=>⟨rfl,?_⟩;rw[jK] at q1 q2;try simp only [xi,xd] at q2)
  refine gP<|wg 7 rfl<|wo rfl (aA aq rfl)<|wg 1 rfl<|wo rfl (az (jf es))<|wo rfl oW<|iW<|wg 1 rfl<|wx rfl (pc Tw _) fun|_,⟨i9,rfl⟩=>⟨rfl,?_⟩
  exact wg 2 rfl<|wo rfl oP<|wo rfl (az (n:=bk.length+1) (by simp))<|lE<|wo rfl oW<|wt rfl (uG (bY.snoc (lu (by omega) (by omega) (by omega))) (by simp;omega) (by simp[St.n,St.ns] at*;omega))
 | @store a b ha cg el h2=>
  have kv:=ex [a,b] (by simp) ja.ex;simp only [St.n] at hn hl⊢;obtain⟨f,hs,own,vars,tables,flags,params⟩:=p;refine wr rfl<|fK<|wg 2 rfl<|wo rfl oP<|wo rfl (az jK)<|wo rfl oW<|eH<|wg 1 rfl ?_
  (refine wx rfl kv fun|_,⟨bk,rfl,bY,q1,q2⟩=>⟨rfl,?_⟩;rw[jK] at q1 q2;try simp only [xi,xd] at q2)
  refine gP<|wg 10 rfl<|wo rfl oP<|wo rfl (az (n:=bk.length+1) (by simp))<|wo rfl oW<|iW<|wg 1 rfl ?_
  (refine wx rfl (oS el (.inr h2) (by simp only [St.n];omega) _ (bY.snoc (LU (by omega) (by omega) (by omega) (by omega))) (by simp[St.ns] at hl⊢;omega)) fun|_,⟨t,ao3,rfl,pW,q5,q6,q7,q8⟩=>⟨rfl,?_⟩;rw[xa] at q5 q6)
  refine Wp.dB rfl po (by(first|assumption|rfl)) ?_;simp only [xi,xd,St.ns] at q5 q6 hl⊢;obtain⟨r,hr,bc⟩:=XG pW (i:=bk.length+1 - 1) (by omega) (v:=t);have Bp:=pW.ay9 hr (v:=t) q7 q8;exact wo rfl bc<|wt rfl ⟨_,rfl,Bp,by rw[xt];omega,by rw[xt];omega⟩
 | @GO k h a ha el h2=>
  have kv:=ex [a] (by simp) ja.ex;simp only [St.n] at hn hl⊢;obtain⟨f,hs,own,vars,tables,flags,params⟩:=p;refine wr rfl<|fK<|wg 2 rfl<|wo rfl oP<|wo rfl (az jK)<|wo rfl oW<|eH<|wg 1 rfl ?_
  (refine wx rfl kv fun|_,⟨bk,rfl,bY,q1,q2⟩=>⟨rfl,?_⟩;rw[jK] at q1 q2;try simp only [xi,xd] at q2)
  refine gP<|wg 10 rfl<|wx rfl (pc H8.v _) fun|_,⟨i1,rfl⟩=>⟨rfl,?_⟩
  refine wg 2 rfl<|wo rfl oP<|wo rfl (az (n:=bk.length+1) (by simp))<|iW<|wo rfl oW<|wg 1 rfl ?_
  (refine wx rfl (oS el (.inr h2) (by simp only [St.n];omega) _ (bY.snoc (cQ8 rfl (by omega))) (by simp[St.ns] at hl⊢;omega)) fun|_,⟨t,ao3,rfl,pW,q5,q6,q7,q8⟩=>⟨rfl,?_⟩;rw[xa] at q5 q6)
  refine Wp.dB rfl po (by(first|assumption|rfl)) ?_;simp only [xi,xd,St.ns] at q5 q6 hl⊢;obtain⟨r,hr,bc⟩:=XG pW (i:=bk.length+1 - 1) (by omega) (v:=t);have Bp:=pW.ay9 hr (v:=t) q7 q8;exact wo rfl bc<|wt rfl ⟨_,rfl,Bp,by rw[xt];omega,by rw[xt];omega⟩
 |stop=>
  have kv:=ex [] (by simp) ja.ex;obtain⟨f,hs,own,vars,tables,flags,params⟩:=p;refine wr rfl<|fK<|wg 2 rfl<|wo rfl oP<|wo rfl (az jK)<|wo rfl oW<|eH<|wg 1 rfl ?_
  (refine wx rfl kv fun|_,⟨bk,rfl,bY,q1,q2⟩=>⟨rfl,?_⟩;rw[jK] at q1 q2;try simp only [xi,xd] at q2)
  exact gP<|wg 12 rfl<|wo rfl oP<|wo rfl (az (n:=bk.length+1) (by simp))<|wo rfl oW<|iW<|wt rfl (uG (bY.snoc (lu (by omega) (by omega) (by omega))) (by simp;omega) (by simp[St.n,St.ns] at*;omega))
theorem cb0{p:Cp}{code:List (List D)}(hc:fM code):Rn F X 77 0 (gm p code++[.sl (St.ss [])]) (oE p code (200*St.ns [])):=by
 obtain⟨f,hs,own,vars,tables,flags,params⟩:=p;exact wr rfl<|wo rfl bl<|Wp.jump rfl<|wr rfl<|wg 1 rfl<|wt rfl (uG hc (by omega) (by omega))
theorem bm9{ar:List (List Nat)}{p:Cp}(hp:TY ar p){w:Wd}(hw:w.Ok)(U5:w.ar=ar):∀(m:Nat) (l:List St) (d:Nat),St.ns l≤m→m≤12→kY w d l→∀code,fM code→code.length+200*St.ns l≤40000→Rn F X 77 0 (gm p code++[.sl (St.ss l)]) (oE p code (200*St.ns l)):=by
 intro m
 induction m with
 |zero=>
  intro l d hl _ _ code hc uA;have:=mW l;obtain rfl:l=[]:=xE.1 (by omega);obtain⟨f,hs,own,vars,tables,flags,params⟩:=p;exact wr rfl<|wo rfl bl<|Wp.jump rfl<|wr rfl<|wg 1 rfl<|wt rfl (uG hc (by omega) (by omega))
 |succ m ih=>
  intro l d hl hm hb code hc uA;have loop:∀(ae pre:List St),l=pre++ae→∀eW,fM eW→code.length≤eW.length→eW.length≤code.length+200*St.ns pre→Rn F X 77 1 ([.sl (St.ss l),jD l.length,jD pre.length]++gm p eW) (oE p code (200*St.ns l)):=by
   intro ae
   induction ae with
   |nil=>
    intro pre aH eW gT q1 q2;rw[xj] at aH;subst aH;obtain⟨f,hs,own,vars,tables,flags,params⟩:=p;exact wr rfl<|kf<|wn rfl af<|wt rfl (uG gT q1 q2)
   |cons a ae cZ=>
    intro pre aH eW gT q1 q2;have aF:=bj aH;have kL:=mW l;have aq:(St.ss l)[pre.length]? =some (St.s a):=by rw[aH];exact xW _ _ _
    have jV:St.ns l=St.ns pre+(St.n a+St.ns ae):=by rw[aH,St.u4];rfl
    have next:=cZ (pre++[a]) (by rw[aH,aV]);rw[xa,St.u4] at next;obtain⟨d,rfl⟩:∃x,d=x+1:=by
     cases d with
     |zero=>rw[show l=[] from hb] at aH;simp at aH
     |succ x=>exact⟨x,rfl⟩
    have hs:=hb a (by rw[aH];simp);have c1:=bm1 (X:=X) hp hw U5 hs (by omega) (fun l2 h2 iw bk bY bF=>by
     rcases h2 with rfl|h2
     ·exact cb0 bY
     ·exact ih l2 d (by omega) (by omega) h2 bk bY (by omega)) gT (by omega)
    obtain⟨kind,name,bV,bg,th,el⟩:=a;obtain⟨f,hs,own,vars,tables,flags,params⟩:=p;refine wr rfl<|kf<|wy rfl af<|wo rfl (aA aq rfl)<|wg 1 rfl<|eH<|wg 1 rfl<|wx rfl c1 fun|_,⟨bk,rfl,bY,q3,q4⟩=>⟨rfl,?_⟩
    exact gP<|wo rfl oA<|Wp.jump rfl (next bk bY (by omega) (by simp only [St.ns] at*;omega))
  have:=loop l [] rfl code hc (by omega) (by omega);obtain⟨f,hs,own,vars,tables,flags,params⟩:=p;exact wr rfl<|wo rfl (az (lR _))<|wj this
end
end Go.Proofs.YtnjdjocokegphaaGreatDoor
