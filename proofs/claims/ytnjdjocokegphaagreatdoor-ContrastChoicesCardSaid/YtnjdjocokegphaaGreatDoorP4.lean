/- What these functions answer. -/
import Derived.Test.YtnjdjocokegphaaGreatDoorP3
set_option linter.unusedVariables false
set_option linter.unusedSimpArgs false
set_option maxHeartbeats 4000000
set_option maxRecDepth 100000
namespace Go.Proofs.YtnjdjocokegphaaGreatDoor
open Go.Ex Go.RowKit Go.Fl
section
variable{X:Nat→List D→Option (List D)}
theorem Xm(s:List UInt8)(v:D):∀m:List (List D),(ue s v m).length≤m.length+1
 |[]=>xk _
 |row::t=>by
  unfold ue;split
  ·simp
  ·have:=Xm s v t;simp only [xi];omega
theorem bh4(hX:lO X){f:dK}(hf:tf f):Rn F X 110 0 f.s (·=[.bool true]):=by
 have c27:=bu8 hX hf;obtain⟨nm,fl,lk,cs⟩:=f;have uC:1≤cs.length:=hf.comps.1;have pX:cs.length≤3:=hf.comps.2.1;have bx:fl.length≤2:=hf.flags.1;have hl9:lk.length≤9:=hf.links.1;have loop:∀(ae pre:List Cm),cs=pre++ae→Rn F X 110 1 [.sl (cs.map Cm.s),jD cs.length,jD pre.length,.str nm,.sl (fl.map Fg.d),.sl (lk.map Lk.d)] (·=[.bool true]):=by
  intro ae
  induction ae with
  |nil=>
   intro pre hp;rw[xj] at hp;subst hp;exact wr rfl<|wn rfl af<|wl rfl c27 rfl<|wt rfl rfl
  |cons c ae ih=>
   intro pre hp;have aF:=bj hp;have aq:=bR (f:=Cm.s) hp;have bZ:=hf.comps.2.2 c (by show c∈cs;rw[hp];simp);have next:=ih (pre++[c]) (by rw[hp,aV]);rw[xa] at next;obtain⟨cn,vars,vs⟩:=c;have cx:vs.length≤2:=bZ.vs.2;have mN:1≤vs.length:=bZ.vs.1;have UC:vars.length≤5:=bZ.vars.1;have j5:∀(dt bB:List (List Hn)),vs=bB++dt→∀m:List (List D),m.length≤3*bB.length→Rn F X 110 2 [.sl (cs.map Cm.s),jD cs.length,jD pre.length,.sl (cr vs),jD vs.length,jD bB.length,.str nm,.sl (fl.map Fg.d),.sl (lk.map Lk.d),.sl m] (·=[.bool true]):=by
    intro dt
    induction dt with
    |nil=>
     intro bB bf m hm;rw[xj] at bf;subst bf;exact wr rfl<|wn rfl af<|wo rfl bl<|wn rfl ch<|wo rfl oA<|wj next
    |cons hs dt eB=>
     intro bB bf m hm;have vz:=bj bf;have kE:=bR (f:=fun l=>[D.sl (l.map Hn.s)]) bf;have hhs:=bZ.hs hs (by show hs∈vs;rw[bf];simp);have hh3:hs.length≤3:=hhs.1;have ii:=eB (bB++[hs]) (by rw[bf,aV]);rw[xa,show[hs].length=1 from rfl] at ii;have lh:∀(dA bp:List Hn),hs=bp++dA→∀m:List (List D),m.length≤3*bB.length+bp.length→Rn F X 110 3 [.sl (cs.map Cm.s),jD cs.length,jD pre.length,.sl (cr vs),jD vs.length,jD bB.length,.sl (hs.map Hn.s),jD hs.length,jD bp.length,.str nm,.sl (fl.map Fg.d),.sl (lk.map Lk.d),.sl m] (·=[.bool true]):=by
      intro dA
      induction dA with
      |nil=>
       intro bp bA m hm;rw[xj] at bA;subst bA;exact wr rfl<|wn rfl af<|wo rfl oA<|Wp.jump rfl (ii m (by omega))
      |cons h dA lJ=>
       intro bp bA m hm;have vw:=bj bA;have gf:=bR (f:=Hn.s) bA;have fe:=lJ (bp++[h]) (by rw[bA,aV]);rw[xa,show[h].length=1 from rfl] at fe;obtain⟨hn,ps,bd⟩:=h;have HW:aN .CN [.sl m,.str hn,.bool true]=some (.sl (ue hn (.bool true) m)):=rfl;have hul:=Xm hn (.bool true) m;exact wr rfl<|wy rfl af<|wo rfl (aA gf rfl)<|wg 1 rfl<|fK<|wo rfl HW<|wo rfl oA<|Wp.jump rfl (fe _ (by omega))
     have g3:=lh hs [] rfl m (by simpa using hm);exact wr rfl<|wy rfl af<|wo rfl (aA kE rfl)<|wg 1 rfl<|kF<|wo rfl (az (bW _ _))<|wj g3
   have g2:=j5 vs [] rfl [] (xk _);refine wr rfl<|wy rfl af<|wo rfl (aA aq rfl)<|wg 1 rfl ?_;dsimp only [dS,Ex.r,St.r,List.cons_append,List.nil_append,jT,jS,jR,jQ,jP,Cm.s];exact wo rfl (az (bW _ _))<|wo rfl (az (bW _ _))<|wn rfl ch<|wn rfl au<|wn rfl ch<|wg 1 rfl<|wo rfl (az (bW _ _))<|wj g2
 have g:=loop cs [] rfl;exact wr rfl<|wo rfl (az (n:=cs.length) (bW _ _))<|wn rfl au<|wn rfl ch<|wo rfl (az (n:=fl.length) (bW _ _))<|wn rfl ch<|wo rfl (az (n:=lk.length) (bW _ _))<|wn rfl ch<|wo rfl (az (n:=cs.length) (bW _ _))<|w8<|wj g
theorem O8(hX:lO X){f:dK}(hf:tf f):Rn F X 41 0 f.s (·=[iD 0]):=by
 have h1:=bh4 hX hf;have h2:=bj2 hX hf;have h3:=bd3 hX hf;obtain⟨nm,fl,lk,cs⟩:=f;exact wr rfl<|wl rfl h1 rfl<|wl rfl h2 rfl<|wl rfl h3 rfl<|wt rfl rfl
end
end Go.Proofs.YtnjdjocokegphaaGreatDoor
namespace Go.Fl
open Go.Ex
theorem tB{c c' k k':Nat}(h1:c<200)(h2:c'<200)(h3:k<200)(h4:k'<200)(h:nm c k=nm c' k'):c=c'∧k=k':=by
 simp only [nm,List.cons.injEq,and_true] at h;have e1:=congrArg UInt8.toNat h.1;have e2:=congrArg UInt8.toNat h.2;simp at e1 e2;omega
theorem qd{s:aL}(h:s∈GN):s.length≤6:=by
 have:∀s∈GN,s.length≤6:=by decide
 exact this s h
def pz(l:List Vr)(s:aL):Option Vr:=l.find? (fun v=>v.name==s)
def yG(l:List Cm)(s:aL):Option Cm:=l.find? (fun v=>v.name==s)
def oQ(l:List (List Hn))(s:aL):Option Hn:=l.flatten.find? (fun v=>v.name==s)
def CB:Option Vr→List D|some v=>v.s++[.bool true]|none=>[.str [],bD 0,iD 0,.bool false]
def YY:Option Cm→List D|some v=>v.s++[.bool true]|none=>[.str [],.sl [],.sl [],.bool false]
def Qi:Option Hn→List D|some v=>v.s++[.bool true]|none=>[.str [],.sl [],.sl [],.bool false]
def tZ(l:List Fg)(s:aL):Bool:=l.any (fun v=>v.name==s)
theorem I2{α:Type}{p:α→Bool}{pre:List α}(h:∀a∈pre,p a=false)(ae:List α):(pre++ae).find? p=ae.find? p:=by
 induction pre with
 |nil=>rfl
 |cons a pre ih=>rw[List.cons_append,List.find?_cons,h a (by simp)];exact ih (fun b hb=>h b (by simp[hb]))
end Go.Fl
namespace Go.Proofs.YtnjdjocokegphaaGreatDoor
open Go.Ex Go.RowKit Go.Fl
section
variable{X:Nat→List D→Option (List D)}
def TX(l:List aL)(s:aL)(o:List D):Prop:=(s∈l∧∃i,o=[iD i]∧i<l.length∧l[i]? =some s)∨(s∉l∧o=[.int .i64 (-1)])
theorem uX{α:Type}{l pre ae:List α}{a:α}(h:l=pre++a::ae):l[pre.length]? =some a:=by rw[h,xq (xk _),Nat.sub_self];rfl
theorem B3{l:List aL}(hl:l.length≤1000)(s:aL):Rn F X 43 0 [.sl (strs l),.str s] (TX l s):=by
 have loop:∀(ae pre:List aL),l=pre++ae→s∉pre→Rn F X 43 1 [.sl (strs l),.str s,jD l.length,jD pre.length] (TX l s):=by
  intro ae
  induction ae with
  |nil=>
   intro pre hp hn;rw[xj] at hp;subst hp;exact wr rfl<|wn rfl af<|wt rfl (.inr ⟨hn,rfl⟩)
  |cons a ae ih=>
   intro pre hp hn;have aF:=bj hp;have aq:(strs l)[pre.length]? =some [.str a]:=bR (f:=fun p:aL=>[D.str p]) hp;have dj7:=uX hp;by_cases hs:s=a
   ·subst hs;exact wr rfl<|wy rfl af<|wo rfl (aA aq rfl)<|wg 1 rfl<|Wp.dB rfl mm rfl<|wt rfl (.inl ⟨by rw[hp];simp,pre.length,rfl,by omega,dj7⟩)
   ·have next:=ih (pre++[a]) (by rw[hp,aV]) (by simp[hn,hs]);rw[xa] at next;exact wr rfl<|wy rfl af<|wo rfl (aA aq rfl)<|wg 1 rfl<|Wp.cN rfl mm hs<|wo rfl oA<|wj next
 exact wr rfl<|wo rfl (az (xm _))<|Wp.jump rfl (loop l [] rfl (by simp))
theorem wO{l:List aL}(hl:l.length≤1000)(s:aL):Rn F X 42 0 [.sl (strs l),.str s] (·=[.bool (decide (s∈l))]):=by
 refine wr rfl<|wg 1 rfl<|wx rfl (B3 hl s) ?_;rintro _ (⟨hm,i,rfl,hi,_⟩|⟨hm,rfl⟩)
 ·refine⟨rfl,?_⟩;rw[decide_eq_true hm];exact wy rfl yd<|wt rfl rfl
 ·refine⟨rfl,?_⟩;rw[decide_eq_false hm];exact wg 1 rfl<|wt rfl rfl
theorem E8{l:List Fg}(hl:l.length≤1000)(s:aL):Rn F X 46 0 [.sl (l.map Fg.d),.str s] (·=[.bool (tZ l s)]):=by
 have loop:∀(ae pre:List Fg),l=pre++ae→(∀x∈pre,(x.name==s)=false)→Rn F X 44 1 [.sl (l.map Fg.d),.ptr [.str s] 0,jD l.length,jD pre.length] (fun o=>(tZ l s=true∧∃i:Nat,o=[iD i])∨(tZ l s=false∧o=[.int .i64 (-1)])):=by
  intro ae
  induction ae with
  |nil=>
   intro pre hp hn;rw[xj] at hp;subst hp;exact wr rfl<|wn rfl af<|wt rfl (.inr ⟨List.any_eq_false.2 (fun x hx=>by rw[hn x hx];exact Bool.false_ne_true),rfl⟩)
  |cons a ae ih=>
   intro pre hp hn;have aF:=bj hp;have aq:=bR (f:=Fg.d) hp;by_cases hs:a.name=s
   ·have ux:tZ l s=true:=List.any_eq_true.2 ⟨a,by rw[hp];simp,by rw[hs];simp⟩;obtain⟨an,ab⟩:=a;cases ab
    ·exact wr rfl<|wy rfl af<|wo rfl (aA aq rfl)<|wg 2 rfl<|w7<|wg 1 rfl<|Wp.dB rfl mm hs<|wt rfl (.inl ⟨ux,pre.length,rfl⟩)
    ·exact wr rfl<|wy rfl af<|wo rfl (aA aq rfl)<|wg 1 rfl<|w7<|wg 1 rfl<|Wp.dB rfl mm hs<|wt rfl (.inl ⟨ux,pre.length,rfl⟩)
   ·have next:=ih (pre++[a]) (by rw[hp,aV]) (fun x hx=>by
     rcases xF.1 hx with hx|hx
     ·exact hn x hx
     ·rw[xy] at hx;subst hx;simpa using hs)
    rw[xa] at next;obtain⟨an,ab⟩:=a;cases ab
    ·exact wr rfl<|wy rfl af<|wo rfl (aA aq rfl)<|wg 2 rfl<|w7<|wg 1 rfl<|Wp.cN rfl mm hs<|wo rfl oA<|wj next
    ·exact wr rfl<|wy rfl af<|wo rfl (aA aq rfl)<|wg 1 rfl<|w7<|wg 1 rfl<|Wp.cN rfl mm hs<|wo rfl oA<|wj next
 have ent:Rn F X 44 0 [.sl (l.map Fg.d),.ptr [.str s] 0] (fun o=>(tZ l s=true∧∃i:Nat,o=[iD i])∨(tZ l s=false∧o=[.int .i64 (-1)])):=by
  exact wr rfl<|wo rfl (az (bW _ _))<|Wp.jump rfl (loop l [] rfl (fun x hx=>by cases hx))
 refine wr rfl<|wg 2 rfl<|wx rfl ent ?_;rintro _ (⟨hm,i,rfl⟩|⟨hm,rfl⟩)
 ·refine⟨rfl,?_⟩;rw[hm];exact wy rfl yd<|wt rfl rfl
 ·refine⟨rfl,?_⟩;rw[hm];exact wg 1 rfl<|wt rfl rfl
theorem wM{l:List Vr}(hl:l.length≤1000)(s:aL):Rn F X 47 0 [.sl (l.map Vr.s),.str s] (·=CB (pz l s)):=by
 have loop:∀(ae pre:List Vr),l=pre++ae→(∀x∈pre,(x.name==s)=false)→Rn F X 47 1 [.str s,.sl (l.map Vr.s),jD l.length,jD pre.length] (·=CB (pz l s)):=by
  intro ae
  induction ae with
  |nil=>
   intro pre hp hn;rw[xj] at hp;subst hp;have hz:pz l s=none:=List.find?_eq_none.2 (fun x hx=>by rw[hn x hx];exact Bool.false_ne_true);rw[hz];exact wr rfl<|wn rfl af<|wt rfl rfl
  |cons a ae ih=>
   intro pre hp hn;have aF:=bj hp;have aq:=bR (f:=Vr.s) hp;by_cases hs:a.name=s
   ·have hz:pz l s=some a:=by unfold pz;rw[hp,I2 hn,List.find?_cons,show(a.name==s)=true by rw[hs];simp]
    rw[hz];obtain⟨a1,a2,a3⟩:=a;exact wr rfl<|wy rfl af<|wo rfl (aA aq rfl)<|wg 1 rfl<|w8<|Wp.dB rfl mm hs<|wt rfl rfl
   ·have next:=ih (pre++[a]) (by rw[hp,aV]) (fun x hx=>by
     rcases xF.1 hx with hx|hx
     ·exact hn x hx
     ·rw[xy] at hx;subst hx;simpa using hs)
    rw[xa] at next;obtain⟨a1,a2,a3⟩:=a;exact wr rfl<|wy rfl af<|wo rfl (aA aq rfl)<|wg 1 rfl<|w8<|Wp.cN rfl mm hs<|wo rfl oA<|wj next
 exact wr rfl<|wo rfl (az (bW _ _))<|Wp.jump rfl (loop l [] rfl (fun x hx=>by cases hx))
theorem IA{l:List Cm}(hl:l.length≤1000)(s:aL):Rn F X 49 0 [.sl (l.map Cm.s),.str s] (·=YY (yG l s)):=by
 have loop:∀(ae pre:List Cm),l=pre++ae→(∀x∈pre,(x.name==s)=false)→Rn F X 49 1 [.str s,.sl (l.map Cm.s),jD l.length,jD pre.length] (·=YY (yG l s)):=by
  intro ae
  induction ae with
  |nil=>
   intro pre hp hn;rw[xj] at hp;subst hp;have hz:yG l s=none:=List.find?_eq_none.2 (fun x hx=>by rw[hn x hx];exact Bool.false_ne_true);rw[hz];exact wr rfl<|wn rfl af<|wt rfl rfl
  |cons a ae ih=>
   intro pre hp hn;have aF:=bj hp;have aq:=bR (f:=Cm.s) hp;by_cases hs:a.name=s
   ·have hz:yG l s=some a:=by unfold yG;rw[hp,I2 hn,List.find?_cons,show(a.name==s)=true by rw[hs];simp]
    rw[hz];obtain⟨a1,a2,a3⟩:=a;exact wr rfl<|wy rfl af<|wo rfl (aA aq rfl)<|wg 1 rfl<|w8<|Wp.dB rfl mm hs<|wt rfl rfl
   ·have next:=ih (pre++[a]) (by rw[hp,aV]) (fun x hx=>by
     rcases xF.1 hx with hx|hx
     ·exact hn x hx
     ·rw[xy] at hx;subst hx;simpa using hs)
    rw[xa] at next;obtain⟨a1,a2,a3⟩:=a;exact wr rfl<|wy rfl af<|wo rfl (aA aq rfl)<|wg 1 rfl<|w8<|Wp.cN rfl mm hs<|wo rfl oA<|wj next
 exact wr rfl<|wo rfl (az (bW _ _))<|Wp.jump rfl (loop l [] rfl (fun x hx=>by cases hx))
theorem Om{l:List (List Hn)}(hl:l.length≤1000)(bF:∀v∈l,v.length≤1000)(s:aL):Rn F X 48 0 [.sl (cr l),.str s] (·=Qi (oQ l s)):=by
 have loop:∀(ae pre:List (List Hn)),l=pre++ae→(∀x∈pre.flatten,(x.name==s)=false)→Rn F X 48 1 [.str s,.sl (cr l),jD l.length,jD pre.length] (·=Qi (oQ l s)):=by
  intro ae
  induction ae with
  |nil=>
   intro pre hp hn;rw[xj] at hp;subst hp;have hz:oQ l s=none:=List.find?_eq_none.2 (fun x hx=>by rw[hn x hx];exact Bool.false_ne_true);rw[hz];exact wr rfl<|wn rfl af<|wt rfl rfl
  |cons a ae ih=>
   intro pre hp hn;have aF:=bj hp;have aq:(cr l)[pre.length]? =some [.sl (a.map Hn.s)]:=bR (f:=fun l:List Hn=>[D.sl (l.map Hn.s)]) hp;have U7:=bF a (by rw[hp];simp);have next:=ih (pre++[a]) (by rw[hp,aV]);rw[xa] at next;have RP:∀(dt bB:List Hn),a=bB++dt→(∀x∈bB,(x.name==s)=false)→Rn F X 48 2 [.str s,.sl (cr l),jD l.length,jD pre.length,.sl (a.map Hn.s),jD a.length,jD bB.length] (·=Qi (oQ l s)):=by
    intro dt
    induction dt with
    |nil=>
     intro bB bf iw;rw[xj] at bf;subst bf;have next:=next (fun x hx=>by
      rw[List.flatten_append] at hx;rcases xF.1 hx with hx|hx
      ·exact hn x hx
      ·exact iw x (by simpa using hx))
     exact wr rfl<|wn rfl af<|wo rfl oA<|wj next
    |cons b dt eB=>
     intro bB bf iw;have vz:=bj bf;have kE:=bR (f:=Hn.s) bf;by_cases hs:b.name=s
     ·have hz:oQ l s=some b:=by
       unfold oQ;rw[hp,List.flatten_append,I2 hn,List.flatten_cons,bf,List.append_assoc,I2 iw,List.cons_append,List.find?_cons,show(b.name==s)=true by rw[hs];simp]
      rw[hz];obtain⟨b1,b2,b3⟩:=b;exact wr rfl<|wy rfl af<|wo rfl (aA kE rfl)<|wg 1 rfl<|cW<|Wp.dB rfl mm hs<|wt rfl rfl
     ·have ii:=eB (bB++[b]) (by rw[bf,aV]) (fun x hx=>by
       rcases xF.1 hx with hx|hx
       ·exact iw x hx
       ·rw[xy] at hx;subst hx;simpa using hs)
      rw[xa] at ii;obtain⟨b1,b2,b3⟩:=b;exact wr rfl<|wy rfl af<|wo rfl (aA kE rfl)<|wg 1 rfl<|cW<|Wp.cN rfl mm hs<|wo rfl oA<|wj ii
   exact wr rfl<|wy rfl af<|wo rfl (aA aq rfl)<|wg 1 rfl<|w6<|wo rfl (az (bW _ _))<|Wp.jump rfl (RP a [] rfl (fun x hx=>by cases hx))
 exact wr rfl<|wo rfl (az (xm _))<|Wp.jump rfl (loop l [] rfl (fun x hx=>by cases hx))
abbrev fA(f:dK)(w:aL):List D:=[.str f.name,.sl (f.flags.map Fg.d),.sl (f.links.map Lk.d),.sl (f.comps.map Cm.s),.str w,.str [],.str [],iD 0]
theorem OC(f:dK)(w n:aL):Rn F X 52 0 (fA f w++[iD 0,.str n]) (·= .bool true::fA f w):=by
 exact wr rfl<|wg 3 rfl<|wt rfl rfl
theorem G1(f:dK)(w w':aL):Rn F X 53 0 (fA f w++[.str w']) (·= .bool true::fA f w'):=by
 exact wr rfl<|wg 1 rfl<|wt rfl rfl
theorem wU(f:dK)(w n:aL)(e:Nat):Rn F X 50 0 (fA f w++[iD e,.str n]) (·= .bool true::fA f w):=by
 exact wr rfl<|wl rfl (OC f w n) rfl<|wt rfl rfl
end
section
variable{X:Nat→List D→Option (List D)}
theorem BX{c c' k n:Nat}(h1:c<200)(h2:c'<200)(h3:k<200)(h4:n≤100)(h:c≠c'):nm c k∉bi c' n:=fun hm=>by
 obtain⟨j,hj,e⟩:=xJ.1 hm;have:=List.mem_range.1 hj;exact h (tB h2 h1 (by omega) h3 e).1.symm
theorem aa3{c k n:Nat}(h:k<n):nm c k∈bi c n:=xJ.2 ⟨k,List.mem_range.2 h,rfl⟩
theorem Qj{n t k:Nat}(hn:n≤3)(ht:t≤1)(hk:k<n):pz (bP n t) (nm 120 k)=some ⟨nm 120 k,1,k⟩:=by
 have a:n=1∨n=2∨n=3:=by omega
 have b:t=0∨t=1:=by omega
 have c:k=0∨k=1∨k=2:=by omega
 rcases a with rfl|rfl|rfl<;>rcases b with rfl|rfl<;>rcases c with rfl|rfl|rfl<;>first|rfl|omega
theorem Ql{n t:Nat}(hn:n≤3)(ht:t≤1):pz (bP n t) (nm 98 0)=some ⟨nm 98 0,2,0⟩:=by
 have a:n=0∨n=1∨n=2∨n=3:=by omega
 have b:t=0∨t=1:=by omega
 rcases a with rfl|rfl|rfl|rfl<;>rcases b with rfl|rfl<;>rfl
theorem Qk{n t:Nat}(hn:n≤3)(ht:t≤1)(h:0<t):pz (bP n t) (nm 116 0)=some ⟨nm 116 0,3,0⟩:=by
 have a:n=0∨n=1∨n=2∨n=3:=by omega
 obtain rfl:t=1:=by omega
 rcases a with rfl|rfl|rfl|rfl<;>rfl
theorem VF{n t:Nat}{v:Vr}(h:v∈bP n t):∃c k,v.name=nm c k∧(c=120∧k<n∨c=98∧k=0∨c=116∧k<t):=by
 rcases xF.1 h with h|h
 ·obtain⟨j,hj,rfl⟩:=xJ.1 h;exact⟨120,j,rfl,.inl ⟨rfl,List.mem_range.1 hj⟩⟩
 ·rcases xG.1 h with rfl|h
  ·exact⟨98,0,rfl,.inr (.inl ⟨rfl,rfl⟩)⟩
  ·obtain⟨j,hj,rfl⟩:=xJ.1 h;exact⟨116,j,rfl,.inr (.inr ⟨rfl,List.mem_range.1 hj⟩)⟩
theorem X8{n t c k:Nat}(hn:n≤3)(ht:t≤1)(hc:c<200)(hk:k<200)(h:c≠120∧c≠98∧c≠116):pz (bP n t) (nm c k)=none:=by
 refine List.find?_eq_none.2 (fun v hv=> ?_);obtain⟨c',k',e,h'⟩:=VF hv;rw[e];intro he;have he:nm c' k'=nm c k:=by simpa using he
 have:=tB (by omega) hc (by omega) hk he;omega
theorem N8(n t:Nat):(bP n t).length=n+1+t:=by simp[bP,rS];omega
def DR(fl:List Fg)(n:Nat):Prop:=fl.length=n∧∀k x,fl[k]? =some x→x.name=nm 102 k
theorem bk9{fl:List Fg}{n k:Nat}(h:DR fl n)(hk:k<n):tZ fl (nm 102 k)=true:=by
 have bN:k<fl.length:=by rw[h.1];exact hk
 exact List.any_eq_true.2 ⟨fl[k],List.getElem_mem bN,by rw[h.2 k _ (xc bN)];simp⟩
theorem PA{fl:List Fg}{n:Nat}{s:aL}(h:DR fl n)(hs:∀k,k<n→nm 102 k≠s):tZ fl s=false:=by
 refine List.any_eq_false.2 (fun x hx=> ?_);obtain⟨i,hi⟩:=rO hx;have:=jB hi;rw[h.2 i x hi];simpa using hs i (by rw[←h.1];exact this)
abbrev l9(fl:List Fg)(vs:List Vr)(ps:List aL):List D:=[.sl (fl.map Fg.d),.sl (vs.map Vr.s),.sl (strs ps)]
variable{fl:List Fg}{ints tables flags params:Nat}
section
variable(hi:ints≤3)(ht:tables≤1)(hf:DR fl flags)(bx:flags≤2)(hp:params≤2)
include hi ht hf bx hp
theorem yH:fl.length≤1000∧(bP ints tables).length≤1000∧(bi 112 params).length≤1000:=by
 have:=N8 ints tables;have:=hf.1;have:(bi 112 params).length=params:=by simp[bi]
 omega
theorem bC7{k:Nat}(hk:k<params):Rn F X 60 0 (l9 fl (bP ints tables) (bi 112 params)++[.str (nm 112 k)]) (·=[bD 1,iD 0]):=by
 obtain⟨l1,l2,l3⟩:=yH hi ht hf bx hp;have c1:=wO (X:=X) l3 (nm 112 k);rw[decide_eq_true (aa3 hk)] at c1;exact wr rfl<|wl rfl c1 rfl<|wt rfl rfl
theorem bC6{k:Nat}(hk:k<ints):Rn F X 60 0 (l9 fl (bP ints tables) (bi 112 params)++[.str (nm 120 k)]) (·=[bD 1,iD 0]):=by
 obtain⟨l1,l2,l3⟩:=yH hi ht hf bx hp;have c1:=wO (X:=X) l3 (nm 120 k);rw[decide_eq_false (BX (by omega) (by omega) (by omega) (by omega) (by omega))] at c1;have c2:=wM (X:=X) l2 (nm 120 k);rw[Qj hi ht hk] at c2;exact wr rfl<|wl rfl c1 rfl<|wl rfl c2 rfl<|w9<|wg 1 rfl<|wt rfl rfl
theorem bC9:Rn F X 60 0 (l9 fl (bP ints tables) (bi 112 params)++[.str (nm 98 0)]) (·=[bD 2,iD 0]):=by
 obtain⟨l1,l2,l3⟩:=yH hi ht hf bx hp;have c1:=wO (X:=X) l3 (nm 98 0);rw[decide_eq_false (BX (by omega) (by omega) (by omega) (by omega) (by omega))] at c1;have c2:=wM (X:=X) l2 (nm 98 0);rw[Ql hi ht] at c2;exact wr rfl<|wl rfl c1 rfl<|wl rfl c2 rfl<|w9<|wg 1 rfl<|wt rfl rfl
theorem bC8{k:Nat}(hk:k<flags):Rn F X 60 0 (l9 fl (bP ints tables) (bi 112 params)++[.str (nm 102 k)]) (·=[bD 2,iD 0]):=by
 obtain⟨l1,l2,l3⟩:=yH hi ht hf bx hp;have c1:=wO (X:=X) l3 (nm 102 k);rw[decide_eq_false (BX (by omega) (by omega) (by omega) (by omega) (by omega))] at c1;have c2:=wM (X:=X) l2 (nm 102 k);rw[X8 hi ht (by omega) (by omega) (by omega)] at c2;have c3:=E8 (X:=X) l1 (nm 102 k);rw[bk9 hf hk] at c3;exact wr rfl<|wl rfl c1 rfl<|wl rfl c2 rfl<|w9<|wl rfl c3 rfl<|wt rfl rfl
theorem bV0{k:Nat}(hk:k<ints):Rn F X 59 0 (l9 fl (bP ints tables) (bi 112 params)++[.str (nm 120 k)]) (·=CB (pz (bP ints tables) (nm 120 k))):=by
 obtain⟨l1,l2,l3⟩:=yH hi ht hf bx hp;have c1:=wO (X:=X) l3 (nm 120 k);rw[decide_eq_false (BX (by omega) (by omega) (by omega) (by omega) (by omega))] at c1;have c2:=wM (X:=X) l2 (nm 120 k);rw[Qj hi ht hk] at c2⊢;exact wr rfl<|wl rfl c1 rfl<|wl rfl c2 rfl<|w9<|wt rfl rfl
theorem bV1:Rn F X 59 0 (l9 fl (bP ints tables) (bi 112 params)++[.str (nm 98 0)]) (·=CB (pz (bP ints tables) (nm 98 0))):=by
 obtain⟨l1,l2,l3⟩:=yH hi ht hf bx hp;have c1:=wO (X:=X) l3 (nm 98 0);rw[decide_eq_false (BX (by omega) (by omega) (by omega) (by omega) (by omega))] at c1;have c2:=wM (X:=X) l2 (nm 98 0);rw[Ql hi ht] at c2⊢;exact wr rfl<|wl rfl c1 rfl<|wl rfl c2 rfl<|w9<|wt rfl rfl
theorem Zc(h:0<tables):Rn F X 59 0 (l9 fl (bP ints tables) (bi 112 params)++[.str (nm 116 0)]) (·=CB (pz (bP ints tables) (nm 116 0))):=by
 obtain⟨l1,l2,l3⟩:=yH hi ht hf bx hp;have c1:=wO (X:=X) l3 (nm 116 0);rw[decide_eq_false (BX (by omega) (by omega) (by omega) (by omega) (by omega))] at c1;have c2:=wM (X:=X) l2 (nm 116 0);rw[Qk hi ht h] at c2⊢;exact wr rfl<|wl rfl c1 rfl<|wl rfl c2 rfl<|w9<|wt rfl rfl
theorem ON(h:0<tables):Rn F X 61 0 (l9 fl (bP ints tables) (bi 112 params)++[.str (nm 116 0)]) (·=[iD 0]):=by
 have c2:=Zc (X:=X) hi ht hf bx hp h;rw[Qk hi ht h] at c2;exact wr rfl<|wl rfl c2 rfl<|w8<|wg 1 rfl<|wt rfl rfl
omit hi ht hf bx hp in
theorem zH{vs:List Vr}{ps:List aL}(t:Nat)(n:aL):Rn F X 62 0 (l9 fl vs ps++[bD t,.str n,iD 0]) (·=[bD t,.str [],iD 0]):=by
 exact wr rfl<|wg 1 rfl<|wt rfl rfl
omit hi ht hf bx hp in
theorem nY{vs:List Vr}{ps:List aL}{l:List Fl.Ex}{t:Nat}(hl:l.length≤2)(h:∀e∈l,Rn F X 63 0 (l9 fl vs ps++Ex.s e) (·=[bD t,.str [],iD 0])):Rn F X 64 0 (l9 fl vs ps++[.sl (Ex.ss l)]) (·=[bD (if l=[] then 0 else t),.str [],iD 0]):=by
 have loop:∀(ae pre:List Fl.Ex),l=pre++ae→Rn F X 64 1 ([bD (if pre=[] then 0 else t),.sl (Ex.ss l),jD l.length,jD pre.length]++l9 fl vs ps) (·=[bD (if l=[] then 0 else t),.str [],iD 0]):=by
  intro ae
  induction ae with
  |nil=>
   intro pre hp;rw[xj] at hp;subst hp;exact wr rfl<|w7<|wn rfl af<|wt rfl rfl
  |cons a ae ih=>
   intro pre hp;have aF:=bj hp;have aq:(Ex.ss l)[pre.length]? =some (Ex.s a):=by rw[hp];exact rN _ _ _
   have ha:=h a (by rw[hp];simp);have next:=ih (pre++[a]) (by rw[hp,aV]);rw[xa,if_neg (by simp)] at next;obtain⟨o1,n1,i1,a1⟩:=a;rcases pre with _|⟨b,pre⟩
   ·exact wr rfl<|w7<|wy rfl af<|wo rfl (aA aq rfl)<|wg 1 rfl<|kF<|wl rfl ha rfl<|wg 2 rfl<|Wp.dB rfl au rfl<|wo rfl oA<|wj next
   ·rw[if_neg (by simp)];exact wr rfl<|w7<|wy rfl af<|wo rfl (aA aq rfl)<|wg 1 rfl<|kF<|wl rfl ha rfl<|wg 1 rfl<|Wp.cN rfl au (by simp;omega)<|Wp.dB rfl au rfl<|wo rfl oA<|wj next
 exact wr rfl<|wo rfl (az (jf _))<|wj (loop l [] rfl)
theorem CJ{d:Nat}{e:Fl.Ex}(h:fh ⟨ints,tables,flags,params⟩ d e):Rn F X 63 0 (l9 fl (bP ints tables) (bi 112 params)++Ex.s e) (·=[bD 1,.str [],iD 0]):=by
 induction h with
 |num n h=>
  have c0:=nY (X:=X) (fl:=fl) (vs:=bP ints tables) (ps:=bi 112 params) (l:=[]) (t:=0) (by simp) (fun e h=>by cases h);exact wr rfl<|w7<|wl rfl c0 rfl<|wg 2 rfl<|wt rfl rfl
 |var k h=>
  have c0:=nY (X:=X) (fl:=fl) (vs:=bP ints tables) (ps:=bi 112 params) (l:=[]) (t:=0) (by simp) (fun e h=>by cases h);have c1:=bC6 (X:=X) hi ht hf bx hp h;have c2:=zH (X:=X) (fl:=fl) (vs:=bP ints tables) (ps:=bi 112 params) 1 (nm 120 k);exact wr rfl<|w7<|wl rfl c0 rfl<|wg 6 rfl<|wl rfl c1 rfl<|wl rfl c2 rfl<|wt rfl rfl
 |lH k h=>
  have c0:=nY (X:=X) (fl:=fl) (vs:=bP ints tables) (ps:=bi 112 params) (l:=[]) (t:=0) (by simp) (fun e h=>by cases h);have c1:=bC7 (X:=X) hi ht hf bx hp h;have c2:=zH (X:=X) (fl:=fl) (vs:=bP ints tables) (ps:=bi 112 params) 1 (nm 112 k);exact wr rfl<|w7<|wl rfl c0 rfl<|wg 6 rfl<|wl rfl c1 rfl<|wl rfl c2 rfl<|wt rfl rfl
 |now=>
  have c0:=nY (X:=X) (fl:=fl) (vs:=bP ints tables) (ps:=bi 112 params) (l:=[]) (t:=0) (by simp) (fun e h=>by cases h);exact wr rfl<|w7<|wl rfl c0 rfl<|wg 3 rfl<|wt rfl rfl
 | @get d h e he ih=>
  have c0:=nY (X:=X) (fl:=fl) (vs:=bP ints tables) (ps:=bi 112 params) (l:=[e]) (t:=1) (by simp) (fun a h=>by rw[xy] at h;subst h;exact ih);have c1:=ON (X:=X) hi ht hf bx hp h;have c2:=zH (X:=X) (fl:=fl) (vs:=bP ints tables) (ps:=bi 112 params) 1 (nm 116 0);exact wr rfl<|w7<|wl rfl c0 rfl<|wg 19 rfl<|wl rfl c1 rfl<|wl rfl c2 rfl<|wt rfl rfl
 |size h=>
  have c0:=nY (X:=X) (fl:=fl) (vs:=bP ints tables) (ps:=bi 112 params) (l:=[]) (t:=0) (by simp) (fun e h=>by cases h);have c1:=ON (X:=X) hi ht hf bx hp h;have c2:=zH (X:=X) (fl:=fl) (vs:=bP ints tables) (ps:=bi 112 params) 1 (nm 116 0);exact wr rfl<|w7<|wl rfl c0 rfl<|wg 7 rfl<|wl rfl c1 rfl<|wl rfl c2 rfl<|wt rfl rfl
 | @neg d e he ih=>
  have c0:=nY (X:=X) (fl:=fl) (vs:=bP ints tables) (ps:=bi 112 params) (l:=[e]) (t:=1) (by simp) (fun a h=>by rw[xy] at h;subst h;exact ih);exact wr rfl<|w7<|wl rfl c0 rfl<|wg 20 rfl<|wt rfl rfl
 | @bin d op h1 h2 a b ha hb ko eB=>
  have c0:=nY (X:=X) (fl:=fl) (vs:=bP ints tables) (ps:=bi 112 params) (l:=[a,b]) (t:=1) (by simp) (fun a h=>by
   rcases xG.1 h with rfl|h
   ·exact ko
   ·rw[xy] at h;subst h;exact eB)
  have:op=11∨op=12∨op=13∨op=14∨op=15:=by omega
  rcases this with rfl|rfl|rfl|rfl|rfl
  ·exact wr rfl<|w7<|wl rfl c0 rfl<|wg 20 rfl<|wt rfl rfl
  ·exact wr rfl<|w7<|wl rfl c0 rfl<|wg 20 rfl<|wt rfl rfl
  ·exact wr rfl<|w7<|wl rfl c0 rfl<|wg 20 rfl<|wt rfl rfl
  ·exact wr rfl<|w7<|wl rfl c0 rfl<|wg 20 rfl<|wt rfl rfl
  ·exact wr rfl<|w7<|wl rfl c0 rfl<|wg 20 rfl<|wt rfl rfl
theorem bV3{d:Nat}{e:Fl.Ex}(h:j8 ⟨ints,tables,flags,params⟩ d e):Rn F X 63 0 (l9 fl (bP ints tables) (bi 112 params)++Ex.s e) (·=[bD 2,.str [],iD 0]):=by
 induction h with
 |lit op h1 h2=>
  have c0:=nY (X:=X) (fl:=fl) (vs:=bP ints tables) (ps:=bi 112 params) (l:=[]) (t:=0) (by simp) (fun e h=>by cases h);have:op=2∨op=3:=by omega
  rcases this with rfl|rfl
  ·exact wr rfl<|w7<|wl rfl c0 rfl<|wg 4 rfl<|wt rfl rfl
  ·exact wr rfl<|w7<|wl rfl c0 rfl<|wg 5 rfl<|wt rfl rfl
 |b0=>
  have c0:=nY (X:=X) (fl:=fl) (vs:=bP ints tables) (ps:=bi 112 params) (l:=[]) (t:=0) (by simp) (fun e h=>by cases h);have c1:=bC9 (X:=X) hi ht hf bx hp;have c2:=zH (X:=X) (fl:=fl) (vs:=bP ints tables) (ps:=bi 112 params) 2 (nm 98 0);exact wr rfl<|w7<|wl rfl c0 rfl<|wg 6 rfl<|wl rfl c1 rfl<|wl rfl c2 rfl<|wt rfl rfl
 |flag k h=>
  have c0:=nY (X:=X) (fl:=fl) (vs:=bP ints tables) (ps:=bi 112 params) (l:=[]) (t:=0) (by simp) (fun e h=>by cases h);have c1:=bC8 (X:=X) hi ht hf bx hp h;have c2:=zH (X:=X) (fl:=fl) (vs:=bP ints tables) (ps:=bi 112 params) 2 (nm 102 k);exact wr rfl<|w7<|wl rfl c0 rfl<|wg 6 rfl<|wl rfl c1 rfl<|wl rfl c2 rfl<|wt rfl rfl
 | @has d h e he=>
  have c0:=nY (X:=X) (fl:=fl) (vs:=bP ints tables) (ps:=bi 112 params) (l:=[e]) (t:=1) (by simp) (fun a h=>by rw[xy] at h;subst h;exact CJ hi ht hf bx hp he);have c1:=ON (X:=X) hi ht hf bx hp h;have c2:=zH (X:=X) (fl:=fl) (vs:=bP ints tables) (ps:=bi 112 params) 2 (nm 116 0);exact wr rfl<|w7<|wl rfl c0 rfl<|wg 16 rfl<|wl rfl c1 rfl<|wl rfl c2 rfl<|wt rfl rfl
 | @not d e he ih=>
  have c0:=nY (X:=X) (fl:=fl) (vs:=bP ints tables) (ps:=bi 112 params) (l:=[e]) (t:=2) (by simp) (fun a h=>by rw[xy] at h;subst h;exact ih);exact wr rfl<|w7<|wl rfl c0 rfl<|wg 13 rfl<|wt rfl rfl
 | @It d op h1 h2 a b ha hb ko eB=>
  have c0:=nY (X:=X) (fl:=fl) (vs:=bP ints tables) (ps:=bi 112 params) (l:=[a,b]) (t:=2) (by simp) (fun a h=>by
   rcases xG.1 h with rfl|h
   ·exact ko
   ·rw[xy] at h;subst h;exact eB)
  have:op=22∨op=23:=by omega
  rcases this with rfl|rfl
  ·exact wr rfl<|w7<|wl rfl c0 rfl<|wg 14 rfl<|wt rfl rfl
  ·exact wr rfl<|w7<|wl rfl c0 rfl<|wg 15 rfl<|wt rfl rfl
 | @cmp d op h1 h2 a b ha hb=>
  have c0:=nY (X:=X) (fl:=fl) (vs:=bP ints tables) (ps:=bi 112 params) (l:=[a,b]) (t:=1) (by simp) (fun a h=>by
   rcases xG.1 h with rfl|h
   ·exact CJ hi ht hf bx hp ha
   ·rw[xy] at h;subst h;exact CJ hi ht hf bx hp hb)
  have:op=16∨op=17∨op=18∨op=19∨op=20∨op=21:=by omega
  rcases this with rfl|rfl|rfl|rfl|rfl|rfl
  ·exact wr rfl<|w7<|wl rfl c0 rfl<|wg 11 rfl<|wt rfl rfl
  ·exact wr rfl<|w7<|wl rfl c0 rfl<|wg 12 rfl<|wt rfl rfl
  ·exact wr rfl<|w7<|wl rfl c0 rfl<|wg 17 rfl<|wt rfl rfl
  ·exact wr rfl<|w7<|wl rfl c0 rfl<|wg 18 rfl<|wt rfl rfl
  ·exact wr rfl<|w7<|wl rfl c0 rfl<|wg 19 rfl<|wt rfl rfl
  ·exact wr rfl<|w7<|wl rfl c0 rfl<|wg 20 rfl<|wt rfl rfl
end
end
end Go.Proofs.YtnjdjocokegphaaGreatDoor
namespace Go.Fl
open Go.Ex
theorem gZ.fg{ar:List (List Nat)}{f:dK}(h:gZ ar f):Go.Proofs.YtnjdjocokegphaaGreatDoor.DR f.flags f.flags.length:=⟨rfl,h.flags.2⟩
theorem E6{i j:Nat}(hi:i<100)(hj:j<100)(h:[(97+i).toUInt8]=[(97+j).toUInt8]):i=j:=by
 simp only [List.cons.injEq,and_true] at h;have e:=congrArg UInt8.toNat h;simp at e;omega
theorem gZ.find{ar:List (List Nat)}{f:dK}(h:gZ ar f){i:Nat}(hi:i<ar.length):∃c,f.comps[i]? =some c∧yG f.comps [(97+i).toUInt8]=some c:=by
 have hn:=h.n;have hi':i<f.comps.length:=by omega
 refine⟨f.comps[i],xc hi',?_⟩;unfold yG;cases hc:f.comps.find? (fun v=>v.name==[(97+i).toUInt8]) with
 |none=>
  have:=List.find?_eq_none.1 hc f.comps[i] (List.getElem_mem hi');rw[(h.comps i _ (xc hi')).name] at this;simp at this
 |some c=>
  have h1:=List.find?_some hc;obtain⟨j,hj⟩:=rO (List.mem_of_find?_eq_some hc);have kM:=jB hj;rw[(h.comps j c hj).name] at h1;have h1:[(97+j).toUInt8]=[(97+i).toUInt8]:=by simpa using h1
  obtain rfl:=E6 (by omega) (by omega) h1;rw[xc hi'] at hj;exact hj.symm
theorem gN.oQ{nf i:Nat}{ar:List (List Nat)}{c:Cm}{al:List Nat}(hc:gN nf ar i c)(bm:ar[i]? =some al)(dM:al.length≤3){k n:Nat}(hk:al[k]? =some n):∃h,oQ c.bt (nm 104 k)=some h∧h.params.length=n:=by
 obtain⟨ints,tables,N3,_,_,_,yW,_,_,_,⟨l,hl,kL⟩,hv⟩:=hc.rest;rw[bm] at yW;cases yW;have hkl:=jB hk;unfold Fl.oQ;cases hf:c.bt.flatten.find? (fun v=>v.name==nm 104 k) with
 |none=>
  have iL:k<l.length:=by omega
  have:=List.find?_eq_none.1 hf l[k] (List.mem_flatten.2 ⟨l,hl,List.getElem_mem iL⟩);rw[((hv l hl).2.2 k _ (xc iL)).name] at this;simp at this
 |some h=>
  have h1:=List.find?_some hf;obtain⟨l',dW,hm⟩:=List.mem_flatten.1 (List.mem_of_find?_eq_some hf);obtain⟨j,hj⟩:=rO hm;have kM:=jB hj;have bF:=hv l' dW;have ho:=bF.2.2 j h hj;rw[ho.name] at h1;have h1:nm 104 j=nm 104 k:=by simpa using h1
  obtain rfl:=(tB (by omega) (by omega) (by omega) (by omega) h1).2;obtain⟨n',gH,hp,_⟩:=ho.lH;rw[hk] at gH;cases gH;exact⟨h,rfl,by rw[hp];simp[bi]⟩
end Go.Fl
namespace Go.Proofs.YtnjdjocokegphaaGreatDoor
open Go.Ex Go.RowKit Go.Fl
section
variable{X:Nat→List D→Option (List D)}
abbrev uJ(fl:List Fg)(vs:List Vr)(ps:List aL)(c:Cm)(pl:aL)(n:Nat)(f:dK)(w:aL):List D:=
 [.sl (fl.map Fg.d),.sl (vs.map Vr.s),.sl (strs ps),.str c.name,.sl (c.vars.map Vr.s),.sl (cr c.bt),.str pl,iD n,.str f.name,.sl (f.flags.map Fg.d),.sl (f.links.map Lk.d),.sl (f.comps.map Cm.s),.str w,.str [],.str [],iD 0]
variable{fl:List Fg}{vs:List Vr}{ps:List aL}{c:Cm}{pl:aL}{n:Nat}{f:dK}{w:aL}
theorem Ou{s:aL}{v:Vr}(h:Rn F X 59 0 (l9 fl vs ps++[.str s]) (·=CB (some v))):Rn F X 65 0 (uJ fl vs ps c pl n f w++[.str s]) (·=bD v.type::uJ fl vs ps c pl n f w):=by
 have h:Rn F X 59 0 (l9 fl vs ps++[.str s]) (·=[.str v.name,bD v.type,iD v.init,.bool true]):=h;exact wr rfl<|wl rfl h rfl<|wt rfl rfl
theorem Qz{l:List Fl.Ex}{t:Nat}(hl:l.length≤5)(h:∀e∈l,Rn F X 63 0 (l9 fl vs ps++Ex.s e) (·=[bD t,.str [],iD 0])):Rn F X 66 0 (uJ fl vs ps c pl n f w++[bD t,.sl (Ex.ss l)]) (·=uJ fl vs ps c pl n f w):=by
 have loop:∀(ae pre:List Fl.Ex),l=pre++ae→Rn F X 66 1 ([bD t,.sl (Ex.ss l),jD l.length,jD pre.length]++uJ fl vs ps c pl n f w) (·=uJ fl vs ps c pl n f w):=by
  intro ae
  induction ae with
  |nil=>
   intro pre hp;rw[xj] at hp;subst hp;exact wr rfl<|jo<|wn rfl af<|wt rfl rfl
  |cons a ae ih=>
   intro pre hp;have aF:=bj hp;have aq:(Ex.ss l)[pre.length]? =some (Ex.s a):=by rw[hp];exact rN _ _ _
   have ha:=h a (by rw[hp];simp);have next:=ih (pre++[a]) (by rw[hp,aV]);rw[xa] at next;obtain⟨o1,n1,i1,a1⟩:=a;exact wr rfl<|jo<|wy rfl af<|wo rfl (aA aq rfl)<|wg 1 rfl<|qT<|wl rfl ha rfl<|wl rfl (OC f w []) rfl<|Wp.dB rfl au rfl<|wl rfl (wU f w [] 10) rfl<|wo rfl oA<|Hz<|wj next
 exact wr rfl<|wo rfl (az (jf _))<|wj (loop l [] rfl)
theorem W8{x:Cm}{s:aL}{l:List Fl.Ex}{fst:Nat}{h:Hn}(hx:x.bt.length≤1000∧∀v∈x.bt,v.length≤1000)(hh:oQ x.bt s=some h)(gi:h.params.length≤5)(aF:l.length=fst+h.params.length)(hl:l.length≤5)(ha:∀e∈l,Rn F X 63 0 (l9 fl vs ps++Ex.s e) (·=[bD 1,.str [],iD 0])):
 Rn F X 67 0 (uJ fl vs ps c pl n f w++[.str x.name,.sl (x.vars.map Vr.s),.sl (cr x.bt),.str s,.sl (Ex.ss l),iD fst]) (·=uJ fl vs ps c pl n f w):=by
 have c1:=Om (X:=X) hx.1 hx.2 s;rw[hh] at c1;have c1:Rn F X 48 0 [.sl (cr x.bt),.str s] (·=[.str h.name,.sl (strs h.params),.sl (St.ss h.body),.bool true]):=c1;have c2:=Qz (X:=X) (c:=c) (pl:=pl) (n:=n) (f:=f) (w:=w) hl ha;have hss:=jf l;have fX:(strs h.params).length=h.params.length:=xm _;refine wr rfl<|wl rfl c1 rfl<|wl rfl (wU f w _ _) rfl<|wo rfl (az (jf _))<|iW<|wo rfl (zS (by omega) (by omega))<|wo rfl (az fX)<|wy rfl au<|wl rfl (wU f w _ _) rfl<|wl rfl c2 rfl ?_;dsimp only [dS,Ex.r,St.r,List.cons_append,List.nil_append,jT,jS,jR,jQ,jP];exact wt rfl rfl
end
structure wK (X:Nat→List D→Option (List D)):Prop where
 Mo:∀n,n≤12→∃s:aL,s.length≤3∧Rn F X 111 0 [iD n] (·=[.str s])
structure At (ar:List (List Nat)) (f:dK) (own:Nat) (c:Cm) (ints tables params:Nat) (al:List Nat):Prop where
 fl:gZ ar f
 kD:f.comps[own]? =some c
 bm:ar[own]? =some al
 vars:c.vars=bP ints tables
 i:ints≤3
 t:tables≤1
 p:params≤2
section
variable{X:Nat→List D→Option (List D)}{ar:List (List Nat)}{f:dK}{own:Nat}{c:Cm}{ints tables params n:Nat}{al:List Nat}{pl w:aL}
theorem gN.small{nf i:Nat}{ar:List (List Nat)}{c:Cm}(cA:∀l∈ar,1≤l.length∧l.length≤3∧∀n∈l,n≤2)(hc:gN nf ar i c):c.bt.length≤1000∧∀v∈c.bt,v.length≤1000:=by
 obtain⟨ints,tables,al,_,_,_,bm,_,_,h2,_,hv⟩:=hc.rest;have:=(cA al (xu bm)).2.1;exact⟨by omega,fun v h=>by have:=(hv v h).2.1;omega⟩
abbrev l8(f:dK)(ints tables params:Nat)(c:Cm)(pl:aL)(n:Nat)(w:aL):List D:=uJ f.flags (bP ints tables) (bi 112 params) c pl n f w
theorem aT6(ha:At ar f own c ints tables params al){B:List St→Prop}{s:St}(hs:lD ⟨⟨ints,tables,f.flags.length,params⟩,ar,own⟩ B s):Rn F X 68 0 (l8 f ints tables params c pl n w++St.s s) (·=l8 f ints tables params c pl n w):=by
 have hi:=ha.i;have ht:=ha.t;have hp:=ha.p;have hf:DR f.flags f.flags.length:=ha.fl.fg;have bx:=ha.fl.flags.1;have cA:=ha.fl.uK;have u:=fun e m=>wU (X:=X) f w m e
 have A1:∀l:List Fl.Ex,l.length≤5→(∀e∈l,fh ⟨ints,tables,f.flags.length,params⟩ 3 e)→Rn F X 66 0 (l8 f ints tables params c pl n w++[bD 1,.sl (Ex.ss l)]) (·=l8 f ints tables params c pl n w):=fun l h1 h2=>Qz h1 (fun e he=>CJ hi ht hf bx hp (h2 e he))
 have A2:∀{e:Fl.Ex},j8 ⟨ints,tables,f.flags.length,params⟩ 5 e→Rn F X 66 0 (l8 f ints tables params c pl n w++[bD 2,.sl (Ex.ss [e])]) (·=l8 f ints tables params c pl n w):=fun he=>Qz (by simp) (fun e h=>by rw[xy] at h;subst h;exact bV3 hi ht hf bx hp he)
 have V1:∀k,k<ints→Rn F X 65 0 (l8 f ints tables params c pl n w++[.str (nm 120 k)]) (·=bD 1::l8 f ints tables params c pl n w):=fun k hk=>Ou (v:=⟨nm 120 k,1,k⟩) (by have:=bV0 (X:=X) hi ht hf bx hp hk;rw[Qj hi ht hk] at this;exact this)
 have V2:Rn F X 65 0 (l8 f ints tables params c pl n w++[.str (nm 98 0)]) (·=bD 2::l8 f ints tables params c pl n w):=Ou (v:=⟨nm 98 0,2,0⟩) (by have:=bV1 (X:=X) hi ht hf bx hp;rw[Ql hi ht] at this;exact this);have V3:0<tables→Rn F X 65 0 (l8 f ints tables params c pl n w++[.str (nm 116 0)]) (·=bD 3::l8 f ints tables params c pl n w):=fun h=>Ou (v:=⟨nm 116 0,3,0⟩) (by have:=Zc (X:=X) hi ht hf bx hp h;rw[Qk hi ht h] at this;exact this)
 cases hs with
 | @my k h e he=>
  have c1:=V1 k h;have c2:=A1 [e] (by simp) (tW he);refine wr rfl<|hO<|wg 1 rfl<|wl rfl c1 rfl<|wg 1 rfl<|wl rfl c2 rfl ?_;dsimp only [dS,Ex.r,St.r,List.cons_append,List.nil_append,jT,jS,jR,jQ,jP,St.s];exact wt rfl rfl
 | @Dg e he=>
  have c1:=V2;have c2:=A2 he;refine wr rfl<|hO<|wg 1 rfl<|wl rfl c1 rfl<|wg 2 rfl<|wl rfl c2 rfl ?_;dsimp only [dS,Ex.r,St.r,List.cons_append,List.nil_append,jT,jS,jR,jQ,jP,St.s];exact wt rfl rfl
 | @put h a b ha hb=>
  have c1:=V3 h;have c2:=A1 [a,b] (by simp) (Mc ha hb);refine wr rfl<|hO<|wg 2 rfl<|wl rfl c1 rfl<|wg 1 rfl<|wl rfl (u _ _) rfl<|wl rfl c2 rfl ?_;dsimp only [dS,Ex.r,St.r,List.cons_append,List.nil_append,jT,jS,jR,jQ,jP,St.s];exact wt rfl rfl
 | @del h a ha=>
  have c1:=V3 h;have c2:=A1 [a] (by simp) (tW ha);refine wr rfl<|hO<|wg 3 rfl<|wl rfl c1 rfl<|wg 1 rfl<|wl rfl (u _ _) rfl<|wl rfl c2 rfl ?_;dsimp only [dS,Ex.r,St.r,List.cons_append,List.nil_append,jT,jS,jR,jQ,jP,St.s];exact wt rfl rfl
 | @cond e he th el h1 h2=>
  have c2:=A2 he;exact wr rfl<|hO<|wg 5 rfl<|wl rfl c2 rfl<|DS<|wt rfl rfl
 | @G3 e he th h1=>
  have c2:=A2 he;exact wr rfl<|hO<|wg 6 rfl<|wl rfl c2 rfl<|DS<|wt rfl rfl
 | @send i h m l hi' hh es he hn=>
  obtain⟨x,nL,hx⟩:=ha.fl.find (jB hi');have HP:=ha.fl.comps i x nL;have dM:=(cA l (xu hi')).2.1;have eK:=(cA l (xu hi')).2.2 m (xu hh);obtain⟨hd,uz,ig⟩:=HP.oQ hi' dM hh;have c3:=IA (X:=X) (l:=f.comps) (by have:=ha.fl.n;omega) [(97+i).toUInt8];rw[hx] at c3;have c3:Rn F X 49 0 [.sl (f.comps.map Cm.s),.str [(97+i).toUInt8]] (·=[.str x.name,.sl (x.vars.map Vr.s),.sl (cr x.bt),.bool true]):=c3;have c4:=W8 (X:=X) (fl:=f.flags) (vs:=bP ints tables) (ps:=bi 112 params) (c:=c) (pl:=pl) (n:=n) (f:=f) (w:=w) (fst:=0) (gN.small cA HP) uz (by omega) (by omega) (by omega) (fun e h=>CJ hi ht hf bx hp (he e h));exact wr rfl<|hO<|wg 7 rfl<|wl rfl c3 rfl<|wl rfl (u _ _) rfl<|wl rfl c4 rfl<|A9<|wt rfl rfl
 | @DM h m l hi' hh es he hn=>
  have HP:=ha.fl.comps own c ha.kD;have dM:=(cA l (xu hi')).2.1;have eK:=(cA l (xu hi')).2.2 m (xu hh);obtain⟨hd,uz,ig⟩:=HP.oQ hi' dM hh;have c4:=W8 (X:=X) (fl:=f.flags) (vs:=bP ints tables) (ps:=bi 112 params) (c:=c) (pl:=pl) (n:=n) (f:=f) (w:=w) (fst:=1) (gN.small cA HP) uz (by omega) (by omega) (by omega) (fun e h=>CJ hi ht hf bx hp (he e h));exact wr rfl<|hO<|wg 8 rfl<|wl rfl c4 rfl<|DS<|wt rfl rfl
 | @store a b ha hb el h2=>
  have c2:=A1 [a,b] (by simp) (Mc ha hb);exact wr rfl<|hO<|wg 9 rfl<|wl rfl c2 rfl<|DS<|wt rfl rfl
 | @GO k h a ha el h2=>
  have c1:=V1 k h;have c2:=A1 [a] (by simp) (tW ha);refine wr rfl<|hO<|wg 4 rfl<|wl rfl c1 rfl<|wg 1 rfl<|wl rfl (u _ _) rfl<|wl rfl c2 rfl ?_;dsimp only [dS,Ex.r,St.r,List.cons_append,List.nil_append,jT,jS,jR,jQ,jP,St.s];exact wt rfl rfl
 |stop=>
  exact wr rfl<|hO<|wg 9 rfl<|wt rfl rfl
theorem aT0(hX:wK X)(ha:At ar f own c ints tables params al)(gi:pl.length≤100):∀(m:Nat) (l:List St) (d n:Nat) (w:aL),St.ns l≤m→kY ⟨⟨ints,tables,f.flags.length,params⟩,ar,own⟩ d l→n+St.ns l≤12→Rn F X 69 0 (l8 f ints tables params c pl n w++[.sl (St.ss l)]) (fun o=>∃w',o=l8 f ints tables params c pl (n+St.ns l) w'):=by
 intro m
 induction m with
 |zero=>
  intro l d n w hl _ _;have:=mW l;obtain rfl:l=[]:=xE.1 (by omega);exact wr rfl<|wo rfl bl<|Wp.jump rfl<|wr rfl<|wg 1 rfl<|wt rfl ⟨w,rfl⟩
 |succ m ih=>
  intro l d n w hl hb hn;have loop:∀(ae pre:List St),l=pre++ae→∀w,Rn F X 69 1 ([.sl (St.ss l),jD l.length,jD pre.length]++l8 f ints tables params c pl (n+St.ns pre) w) (fun o=>∃w',o=l8 f ints tables params c pl (n+St.ns l) w'):=by
   intro ae
   induction ae with
   |nil=>
    intro pre hp w;rw[xj] at hp;subst hp;exact wr rfl<|fJ<|wn rfl af<|wt rfl ⟨w,rfl⟩
   |cons a ae cZ=>
    intro pre hp w;have aF:=bj hp;have kL:=mW l;have aq:(St.ss l)[pre.length]? =some (St.s a):=by rw[hp];exact xW _ _ _
    have jV:St.ns l=St.ns pre+(St.n a+St.ns ae):=by rw[hp,St.u4];rfl
    have next:=cZ (pre++[a]) (by rw[hp,aV]);obtain⟨d,rfl⟩:∃x,d=x+1:=by
     cases d with
     |zero=>rw[show l=[] from hb] at hp;simp at hp
     |succ x=>exact⟨x,rfl⟩
    have hs:=hb a (by rw[hp];simp);obtain⟨s1,ec,c1⟩:=hX.Mo (n+St.ns pre) (by omega);have c3:=fun w=>aT6 (X:=X) (pl:=pl) (n:=n+St.ns pre+1) (w:=w) ha hs
    obtain⟨kind,name,bV,bg,th,el⟩:=a;obtain⟨n1,n2⟩:=hs.nest;simp only [St.n] at jV;have b1:∃d',kY ⟨⟨ints,tables,f.flags.length,params⟩,ar,own⟩ d' th:=by
     rcases n1 with rfl|h
     ·exact⟨0,rfl⟩
     ·exact⟨_,h⟩
    have b2:∃d',kY ⟨⟨ints,tables,f.flags.length,params⟩,ar,own⟩ d' el:=by
     rcases n2 with rfl|h
     ·exact⟨0,rfl⟩
     ·exact⟨_,h⟩
    obtain⟨d1,b1⟩:=b1;obtain⟨d2,b2⟩:=b2;have c4:=fun w=>ih th d1 (n+St.ns pre+1) w (by omega) b1 (by omega)
    have c5:=fun w=>ih el d2 (n+St.ns pre+1+St.ns th) w (by omega) b2 (by omega)
    have e1:n+St.ns (pre++[St.mk kind name bV bg th el])=n+St.ns pre+1+St.ns th+St.ns el:=by rw[St.u4];simp[St.ns,St.n];omega
    rw[e1,xa] at next;refine wr rfl<|fJ<|wy rfl af<|wo rfl (aA aq rfl)<|wg 1 rfl<|mJ<|wl rfl c1 rfl<|wo rfl (c8 (by omega))<|wl rfl (G1 f _ _) rfl<|wo rfl oA<|DS<|wl rfl (c3 _) rfl<|MS<|wg 1 rfl<|wx rfl (c4 _) fun|_,⟨w4,rfl⟩=>⟨rfl,?_⟩
    dsimp only [dS,Ex.r,St.r,List.cons_append,List.nil_append,jT,jS,jR,jQ,jP,St.s];refine wg 1 rfl<|wx rfl (c5 _) fun|_,⟨w5,rfl⟩=>⟨rfl,?_⟩
    dsimp only [dS,Ex.r,St.r,List.cons_append,List.nil_append,jT,jS,jR,jQ,jP,St.s];exact wo rfl oA<|Wp.jump rfl (next _)
  have:=loop l [] rfl w;exact wr rfl<|wo rfl (az (lR _))<|wj this
end
end Go.Proofs.YtnjdjocokegphaaGreatDoor
namespace Go.Fl
open Go.Ex
theorem aW3{a b n:Nat}(h1:a/n=b/n)(h2:a%n=b%n):a=b:=by
 rw[←Nat.div_add_mod a n,←Nat.div_add_mod b n,h1,h2]
theorem gZ.ck8{ar:List (List Nat)}{f:dK}(h:gZ ar f):f.links.Pairwise (fun x y=> ¬(x.src=y.src∧x.dst=y.dst)):=by
 obtain⟨ks,gJ,hp,hk⟩:=h.links;have hn:=h.n;have h9:ar.length*ar.length≤9:=Nat.mul_le_mul hn.2.2 hn.2.2;rw[gJ,List.pairwise_map];refine hp.imp_of_mem (fun{p q} hp hq aX he=> ?_);have h1:=hk p hp;have h2:=hk q hq;have d1:p.1/ar.length<ar.length:=Nat.div_lt_of_lt_mul h1.1;have d2:q.1/ar.length<ar.length:=Nat.div_lt_of_lt_mul h2.1;have m1:p.1%ar.length<ar.length:=Nat.mod_lt _ hn.2.1;have m2:q.1%ar.length<ar.length:=Nat.mod_lt _ hn.2.1;have e1:=E6 (by omega) (by omega) he.1;have e2:=E6 (by omega) (by omega) he.2;have:=aW3 e1 e2;omega
theorem gZ.bD3{ar:List (List Nat)}{f:dK}(h:gZ ar f):∀x∈f.links,(∃i,i<ar.length∧x.src=[(97+i).toUInt8])∧∃i,i<ar.length∧x.dst=[(97+i).toUInt8]:=by
 obtain⟨ks,gJ,hp,hk⟩:=h.links;have hn:=h.n;intro x hx;rw[gJ] at hx;obtain⟨p,hp,rfl⟩:=xJ.1 hx;exact⟨⟨_,Nat.div_lt_of_lt_mul (hk p hp).1,rfl⟩,_,Nat.mod_lt _ hn.2.1,rfl⟩
theorem bg4{α:Type}{l pre ae:List α}(h:l=pre++ae):l.take pre.length=pre:=by rw[h];exact List.take_left
theorem bD4{i c k:Nat}:[(97+i).toUInt8]≠nm c k:=by
 intro h;have:=congrArg List.length h;simp[nm] at this
end Go.Fl
namespace Go.Proofs.YtnjdjocokegphaaGreatDoor
open Go.Ex Go.RowKit Go.Fl
section
variable{X:Nat→List D→Option (List D)}{ar:List (List Nat)}{f:dK}{own:Nat}{c:Cm}{ints tables params n:Nat}{al:List Nat}{pl w:aL}
theorem Ca{α:Type}{g:α→List D}{l pre ae:List α}(h:l=pre++ae):(l.map g).take pre.length=pre.map g:=by rw[←List.map_take,bg4 h]
theorem bn7(hI:wK X)(ha:At ar f own c ints tables params al){k:Nat}{h:Hn}{HA:aL}(hv:HA.length≤20)(lK:h.params=bi 112 params)(hb:kY ⟨⟨ints,tables,f.flags.length,params⟩,ar,own⟩ 4 h.body)(ia:h.name.length≤6)(hn:St.ns h.body≤12):
 Rn F X 56 0 (fA f w++[.str c.name,.sl (c.vars.map Vr.s),.sl (cr c.bt),.str h.name,.sl (strs h.params),.sl (St.ss h.body),.str HA]) (fun o=>∃w',o=fA f w'):=by
 obtain⟨Av,dD3,C5⟩:=h;simp only at lK hb ia hn;subst lK;have hi:=ha.i;have ht:=ha.t;have hp:=ha.p;have hf:DR f.flags f.flags.length:=ha.fl.fg;have bx:=ha.fl.flags.1;obtain⟨l1,l2,l3⟩:=yH hi ht hf bx hp;have Bo:c.name.length=1:=by rw[(ha.fl.comps own c ha.kD).name];rfl
 have iK:=ha.vars;have fX:(strs (bi 112 params)).length=params:=by simp[strs,bi]
 have eR:(bi 112 params).length=params:=by simp[bi]
 have c9:∀pl:aL,pl.length≤100→Rn F X 69 0 ([.sl (f.flags.map Fg.d),.sl (c.vars.map Vr.s),.sl (strs (bi 112 params)),.str c.name,.sl (c.vars.map Vr.s),.sl (cr c.bt),.str pl,iD 0]++fA f w++[.sl (St.ss C5)]) (fun o=>∃w',o=l8 f ints tables params c pl (0+St.ns C5) w'):=fun pl gi=>by
  have:=aT0 hI ha gi 12 C5 4 0 w (by omega) hb (by omega);unfold l8 uJ at this⊢;rw[iK] at this⊢;exact this
 have loop:∀(ae pre:List aL),bi 112 params=pre++ae→Rn F X 56 1 ([.str HA,.sl (strs (bi 112 params)),jD params,jD pre.length]++fA f w++[.str c.name,.sl (c.vars.map Vr.s),.sl (cr c.bt),.str Av,.sl (St.ss C5)]) (fun o=>∃w',o=fA f w'):=by
  intro ae
  induction ae with
  |nil=>
   intro pre aH;rw[xj] at aH;have e:pre.length=params:=by rw[←aH];exact eR
   rw[e];refine wr rfl<|fK<|wn rfl af<|wo rfl (c8 (by simp;omega))<|wo rfl (c8 (by simp;omega))<|wo rfl (c8 (by simp;omega))<|wo rfl (c8 (by simp;omega))<|eH<|wo rfl (c8 (by simp;omega))<|wg 1 rfl<|wx rfl (c9 _ (by simp;omega)) fun|_,⟨w',rfl⟩=>⟨rfl,?_⟩
   exact wt rfl ⟨w',rfl⟩
  |cons a ae cZ=>
   intro pre aH;have aF:=bj aH;have aq:(strs (bi 112 params))[pre.length]? =some [.str a]:=bR (f:=fun p:aL=>[D.str p]) aH;have mP:(strs (bi 112 params)).take pre.length=strs pre:=Ca (g:=fun p:aL=>[D.str p]) aH;have ea:a=nm 112 pre.length:=by
    have h1:=uX aH;have aX:pre.length<params:=by omega
    rw[bi,xx,List.getElem?_range aX] at h1;cases h1;rfl
   have dg1:a∉pre:=by
    intro hm;have Dv:∀x∈pre,∃j,j<pre.length∧x=nm 112 j:=fun x hx=>by
     obtain⟨j,hj⟩:=rO hx;have kM:=jB hj;have h1:(bi 112 params)[j]? =some x:=by rw[aH,xw kM];exact hj
     rw[bi,xx,List.getElem?_range (by omega)] at h1;cases h1;exact⟨j,kM,rfl⟩
    obtain⟨j,hj,e⟩:=Dv a hm;rw[ea] at e;have:=(tB (by omega) (by omega) (by omega) (by omega) e).2;omega
   have c1:=wM (X:=X) l2 a;rw[ea,X8 hi ht (by omega) (by omega) (by omega),←ea,←iK] at c1;have c1:Rn F X 47 0 [.sl (c.vars.map Vr.s),.str a] (·=[.str [],bD 0,iD 0,.bool false]):=c1;have c2:=E8 (X:=X) l1 a;rw[PA hf (fun j hj=>by rw[ea];intro e;have:=tB (by omega) (by omega) (by omega) (by omega) e;omega)] at c2;have c3:=wO (X:=X) (l:=pre) (by omega) a;rw[decide_eq_false dg1] at c3;have u:=wU (X:=X) f w a 5;have next:=cZ (pre++[a]) (by rw[aH,aV]);rw[xa] at next;refine wr rfl<|fK<|wy rfl af<|wo rfl (aA aq rfl)<|wg 1 rfl<|wl rfl c1 rfl<|wl rfl c2 rfl<|v9 ?_
   (refine Wp.op rfl (kZ (by rw[fX];omega)) rfl ?_;rw[mP])
   exact wl rfl c3 rfl<|wl rfl u rfl<|wo rfl oA<|iW<|wj next
 have:=loop (bi 112 params) [] rfl;exact wr rfl<|wo rfl (az fX)<|wj this
theorem bl2(hf:gZ ar f):Rn F X 54 0 (fA f w) (fun o=>∃w',o=fA f w'):=by
 have Ia:=hf.fg;have bx:=hf.flags.1;have loop:∀(ae pre:List Fg),f.flags=pre++ae→∀w,Rn F X 54 1 ([.sl (f.flags.map Fg.d),jD f.flags.length,jD pre.length]++fA f w) (fun o=>∃w',o=fA f w'):=by
  intro ae
  induction ae with
  |nil=>
   intro pre hp w;rw[xj] at hp;rw[hp];exact wr rfl<|cW<|wn rfl af<|wt rfl ⟨w,rfl⟩
  |cons a ae ih=>
   intro pre hp w;have aF:=bj hp;have aq:=bR (f:=Fg.d) hp;have mP:=Ca (g:=Fg.d) hp;have mR:=bW Fg.d f.flags;have ea:=Ia.2 _ _ (uX hp);have Dv:tZ pre a.name=false:=List.any_eq_false.2 (fun x hx=>by
    obtain⟨j,hj⟩:=rO hx;have kM:=jB hj;have h1:f.flags[j]? =some x:=by rw[hp,xw kM];exact hj
    rw[Ia.2 j x h1,ea];intro e;have e:nm 102 j=nm 102 pre.length:=by simpa using e
    have:=(tB (by omega) (by omega) (by omega) (by omega) e).2;omega)
   have c2:=E8 (X:=X) (l:=pre) (by omega) a.name;rw[Dv] at c2;have bm:a.name.length=2:=by rw[ea];rfl
   have next:=ih (pre++[a]) (by rw[hp,aV]);rw[xa] at next;obtain⟨an,ab⟩:=a;simp only at bm c2;have u:=fun w e=>wU (X:=X) f w an e
   cases ab
   ·refine wr rfl<|cW<|wy rfl af<|wo rfl (aA aq rfl)<|wg 2 rfl<|kf<|wo rfl (c8 (by simp;omega))<|wl rfl (G1 f _ _) rfl ?_
    (refine Wp.op rfl (kZ (by rw[mR];omega)) rfl ?_;rw[mP])
    exact wl rfl c2 rfl<|mJ<|wl rfl (u _ _) rfl<|wo rfl oA<|Wp.jump rfl (next _)
   ·refine wr rfl<|cW<|wy rfl af<|wo rfl (aA aq rfl)<|wg 1 rfl<|kf<|wo rfl (c8 (by simp;omega))<|wl rfl (G1 f _ _) rfl ?_
    (refine Wp.op rfl (kZ (by rw[mR];omega)) rfl ?_;rw[mP])
    exact wl rfl c2 rfl<|mJ<|wl rfl (u _ _) rfl<|wo rfl oA<|Wp.jump rfl (next _)
 have:=loop f.flags [] rfl w;exact wr rfl<|wo rfl (az (bW _ _))<|wj this
theorem aY7{l:List Lk}(hl:l.length≤1000){s d:aL}{t:Nat}(h:∀x∈l,¬(x.src=s∧x.dst=d)):Rn F X 45 0 [.sl (l.map Lk.d),.ptr [.str s,.str d,iD t] 0] (·=[.int .i64 (-1)]):=by
 have loop:∀(ae pre:List Lk),l=pre++ae→Rn F X 45 1 [.sl (l.map Lk.d),.ptr [.str s,.str d,iD t] 0,jD l.length,jD pre.length] (·=[.int .i64 (-1)]):=by
  intro ae
  induction ae with
  |nil=>
   intro pre hp;rw[xj] at hp;subst hp;exact wr rfl<|wn rfl af<|wt rfl rfl
  |cons a ae ih=>
   intro pre hp;have aF:=bj hp;have aq:=bR (f:=Lk.d) hp;have ha:=h a (by rw[hp];simp);have next:=ih (pre++[a]) (by rw[hp,aV]);rw[xa] at next;obtain⟨a1,a2,a3⟩:=a;simp only at ha;by_cases hs:a1=s
   ·have hd: ¬a2=d:=fun hd=>ha ⟨hs,hd⟩
    exact wr rfl<|wy rfl af<|wo rfl (aA aq rfl)<|wg 1 rfl<|w8<|wg 2 rfl<|Wp.dB rfl mm hs<|wg 2 rfl<|kF<|Wp.cN rfl mm hd<|wo rfl oA<|wj next
   ·exact wr rfl<|wy rfl af<|wo rfl (aA aq rfl)<|wg 1 rfl<|w8<|wg 2 rfl<|Wp.cN rfl mm hs<|wo rfl oA<|wj next
 exact wr rfl<|wo rfl (az (bW _ _))<|wj (loop l [] rfl)
theorem bj7(hf:gZ ar f):Rn F X 55 0 (fA f w) (fun o=>∃w',o=fA f w'):=by
 have hn:=hf.n;have hl9:=hf.ok.links.1;have loop:∀(ae pre:List Lk),f.links=pre++ae→∀w,Rn F X 55 1 ([.sl (f.links.map Lk.d),jD f.links.length,jD pre.length]++fA f w) (fun o=>∃w',o=fA f w'):=by
  intro ae
  induction ae with
  |nil=>
   intro pre hp w;rw[xj] at hp;rw[hp];exact wr rfl<|cW<|wn rfl af<|wt rfl ⟨w,rfl⟩
  |cons a ae ih=>
   intro pre hp w;have aF:=bj hp;have aq:=bR (f:=Lk.d) hp;have mP:=Ca (g:=Lk.d) hp;have mR:=bW Lk.d f.links;have hpw:=hf.ck8;rw[hp] at hpw;have gG:∀x∈pre,¬(x.src=a.src∧x.dst=a.dst):=fun x hx=>(List.pairwise_append.1 hpw).2.2 x hx a (by simp)
   obtain⟨⟨i1,sR,e1⟩,i2,eY,e2⟩:=hf.bD3 a (by rw[hp];simp);obtain⟨x1,_,q1⟩:=hf.find sR;obtain⟨x2,_,q2⟩:=hf.find eY;have c1:=IA (X:=X) (l:=f.comps) (by omega) a.src;rw[e1,q1,←e1] at c1;have c1:Rn F X 49 0 [.sl (f.comps.map Cm.s),.str a.src] (·=[.str x1.name,.sl (x1.vars.map Vr.s),.sl (cr x1.bt),.bool true]):=c1;have c2:=IA (X:=X) (l:=f.comps) (by omega) a.dst;rw[e2,q2,←e2] at c2;have c2:Rn F X 49 0 [.sl (f.comps.map Cm.s),.str a.dst] (·=[.str x2.name,.sl (x2.vars.map Vr.s),.sl (cr x2.bt),.bool true]):=c2;have c3:=aY7 (X:=X) (l:=pre) (t:=a.zd) (by omega) gG;have l1:a.src.length=1:=by rw[e1];rfl
   have l2:a.dst.length=1:=by rw[e2];rfl
   have next:=ih (pre++[a]) (by rw[hp,aV]);rw[xa] at next;have u:=fun w n e=>wU (X:=X) f w n e
   obtain⟨a1,a2,a3⟩:=a;simp only at c1 c2 c3 l1 l2;have p2:∀w,Rn F X 55 2 ([jD pre.length,.sl (f.links.map Lk.d),jD f.links.length,iD 2]++fA f w++[.str a1,.str a2,iD a3]) (fun o=>∃w',o=fA f w'):=by
    intro w;refine wr rfl<|dC<|wg 1 rfl ?_
    (refine Wp.op rfl (kZ (by rw[mR];omega)) rfl ?_;rw[mP])
    exact wg 2 rfl<|wL rfl c3 rfl<|wg 1 rfl<|wl rfl (u _ _ _) rfl<|io<|wo rfl oA<|Wp.jump rfl (next _)
   have p1:∀w,Rn F X 55 2 ([jD pre.length,.sl (f.links.map Lk.d),jD f.links.length,iD 1]++fA f w++[.str a1,.str a2,iD a3]) (fun o=>∃w',o=fA f w'):=by
    intro w;exact wr rfl<|dC<|wg 3 rfl<|wl rfl c2 rfl<|wl rfl (u _ _ _) rfl<|wo rfl oI<|ol<|Wp.jump rfl (p2 _)
   have p0:∀w,Rn F X 55 2 ([jD pre.length,.sl (f.links.map Lk.d),jD f.links.length,iD 0]++fA f w++[.str a1,.str a2,iD a3]) (fun o=>∃w',o=fA f w'):=by
    intro w;exact wr rfl<|dC<|wg 3 rfl<|wl rfl c1 rfl<|wl rfl (u _ _ _) rfl<|wo rfl oI<|ol<|Wp.jump rfl (p1 _)
   exact wr rfl<|cW<|wy rfl af<|wo rfl (aA aq rfl)<|wg 1 rfl<|dC<|wo rfl (c8 (by simp;omega))<|wo rfl (c8 (by simp;omega))<|wo rfl (c8 (by simp;omega))<|wl rfl (G1 f _ _) rfl<|io<|Wp.jump rfl (p0 _)
 have:=loop f.links [] rfl w;exact wr rfl<|wo rfl (az (bW _ _))<|wj this
end
end Go.Proofs.YtnjdjocokegphaaGreatDoor
