/- What these functions answer. -/
import Derived.Test.YtnjdjocokegphaaGreatDoorP1
set_option linter.unusedVariables false
set_option linter.unusedSimpArgs false
set_option maxHeartbeats 4000000
set_option maxRecDepth 100000
namespace Go.Fl
open Go.Ex
structure DP where
 flags:UInt8
 links:List UInt8
 parts:List Pt
def DP.d(p:DP):List D:=[bD p.flags.toNat,.sl (bO p.links),.sl (p.parts.map Pt.d)]
structure gN (flags:Nat) (ar:List (List Nat)) (i:Nat) (c:Cm):Prop where
 name:c.name=[(97+i).toUInt8]
 rest:∃ints tables al,1≤ints∧ints≤3∧tables≤1∧ar[i]? =some al∧
  c.vars=(List.range ints).map (fun k=>(⟨nm 120 k,1,k⟩:Vr))++(⟨nm 98 0,2,0⟩:Vr)::(List.range tables).map (fun k=>(⟨nm 116 k,3,0⟩:Vr))∧
  1≤c.bt.length∧c.bt.length≤2∧(∃l∈c.bt,l.length=al.length)∧
  ∀l∈c.bt,1≤l.length∧l.length≤al.length∧∀k h,l[k]? =some h→qR ints tables flags i ar al k h
structure gZ (ar:List (List Nat)) (f:dK):Prop where
 name:f.name=[102,108,101,101,116,49]
 flags:f.flags.length≤2∧∀k x,f.flags[k]? =some x→x.name=nm 102 k
 links:∃ks:List (Nat×Nat),f.links=ks.map (fun p=>(⟨[(97+p.1/ar.length).toUInt8],[(97+p.1%ar.length).toUInt8],p.2⟩:Lk))∧ks.Pairwise (fun p q=>p.1<q.1)∧∀p∈ks,p.1<ar.length*ar.length∧1≤p.2∧p.2≤3
 n:f.comps.length=ar.length∧1≤ar.length∧ar.length≤3
 uK:∀l∈ar,1≤l.length∧l.length≤3∧∀n∈l,n≤2
 comps:∀i c,f.comps[i]? =some c→gN f.flags.length ar i c
end Go.Fl
namespace Go.Proofs.YtnjdjocokegphaaGreatDoor
open Go.Ex Go.RowKit Go.Fl
theorem bB6{a b c:Nat}:aN (.bin .shr c) [.int .u8 (a:Nat),jD b]=some (.int .u8 ((a/2^min b 8:Nat):Int)):=by
 show ofInt (bs (hY (b:Int) 0) none (some (.int .u8 (Int.fdiv a (.ofNat (Nat.pow 2 (Nat.min (Int.toNat (b:Int)) 8)))))))=_;rw[oL,decide_eq_false (by omega)];show some (D.int .u8 (Int.fdiv (a:Int) ((2^min b 8:Nat):Int)))=_;rw[←Int.ofNat_fdiv]
theorem Kc{k n:Nat}(h:k<n)(hn:n≤3):aN (.fR 1 0 1 false) [jD k,.str [97],.str [98],.str [99]]=some (.str [(97+k).toUInt8]):=He (by omega)
section
variable{X:Nat→List D→Option (List D)}{ar:List (List Nat)}{parts:List Pt}{flags:List Fg}{links:List Lk}{Q:List D→Prop}{comps:List Cm}{i len:Nat}{p:Pt}
def rS(k:Nat):List Vr:=(List.range k).map (fun k=>(⟨nm 120 k,1,k⟩:Vr))
def bP(n k:Nat):List Vr:=rS n++(⟨nm 98 0,2,0⟩:Vr)::(List.range k).map (fun k=>(⟨nm 116 k,3,0⟩:Vr))
theorem Xj(k:Nat):(rS k).map Vr.r++[[.str (nm 120 k),iD 1,iD k]]=(rS (k+1)).map Vr.r:=by simp[rS,List.range_succ,Vr.r]
theorem Xl(n:Nat):(rS n).map Vr.r++[[.str (nm 98 0),iD 2,iD 0]]=(bP n 0).map Vr.r:=by simp[bP,Vr.r]
theorem Xk(n k:Nat):(bP n k).map Vr.r++[[.str (nm 116 k),iD 3,iD 0]]=(bP n (k+1)).map Vr.r:=by simp[bP,List.range_succ,Vr.r]
theorem V9(k:Nat):((rS k).map Vr.r).length=k:=by simp[rS]
theorem V'(n k:Nat):((bP n k).map Vr.r).length=n+1+k:=by simp[bP,rS];omega
theorem ED(l:List Cd)(k:Nat):(l.map Cd.d).take k=(l.take k).map Cd.d:=by rw[List.map_take]
theorem zA(comps:List Cm)(c:Cm):comps.map Cm.r++[Cm.r c]=(comps++[c]).map Cm.r:=by simp
abbrev cD(ar:List (List Nat))(i:Nat)(parts:List Pt)(len:Nat)(QQ:List (List D))(nl k:Nat)(flags:List Fg)(links:List Lk)(comps:List Cm)(p:Pt)(vars:List Vr):List D:=
 [.sl (dN ar),jD i,.sl (parts.map Pt.d),jD len,.sl QQ,jD nl,jD k,.sl (flags.map Fg.d),.sl (links.map Lk.d),.sl (comps.map Cm.r),bD p.ints.toNat,bD p.tables.toNat,.sl (p.hs.map Cd.d),.sl (p.second.map Cd.d),.str [(97+i).toUInt8],.sl (vars.map Vr.r)]
abbrev eD(ar:List (List Nat))(parts:List Pt)(len i:Nat)(flags:List Fg)(links:List Lk)(comps:List Cm):List D:=
 [.sl (dN ar),.sl (parts.map Pt.d),jD len,jD i,.sl (flags.map Fg.d),.sl (links.map Lk.d),.sl (comps.map Cm.r)]
theorem IQ{α:Type}{l:List α}{a:α}{i:Nat}{R:Nat→α→Prop}(hi:l.length=i)(h:∀i c,l[i]? =some c→R i c)(ha:R i a):∀i c,(l++[a])[i]? =some c→R i c:=by
 intro k c hk;rcases Nat.lt_or_ge k l.length with aX|dX
 ·rw[xw aX] at hk;exact h k c hk
 ·rw[xq dX] at hk;have h0:k - l.length=0:=by
   rcases xI (k - l.length) with h|h
   ·exact h
   ·rw[List.getElem?_eq_none (by simp;omega)] at hk;cases hk
  rw[h0] at hk;cases hk;obtain rfl:k=i:=by omega
  exact ha
theorem gN.one{nf i ints tables:Nat}{ar:List (List Nat)}{al:List Nat}{ec:List Hn}(i1:1≤ints)(i3:ints≤3)(t1:tables≤1)(bm:ar[i]? =some al)(eS:∀k h,ec[k]? =some h→qR ints tables nf i ar al k h)(h1:ec.length=al.length)(h2:1≤ec.length):
 gN nf ar i ⟨[(97+i).toUInt8],bP ints tables,[ec]⟩:=
 ⟨rfl,ints,tables,al,i1,i3,t1,bm,rfl,xk 1,by show 1≤2;omega,⟨ec,List.mem_singleton_self _,h1⟩,fun l hl=>by rw[xy] at hl;subst hl;exact⟨h2,Nat.le_of_eq h1,eS⟩⟩
theorem gN.two{nf i ints tables:Nat}{ar:List (List Nat)}{al:List Nat}{ec eJ:List Hn}(i1:1≤ints)(i3:ints≤3)(t1:tables≤1)(bm:ar[i]? =some al)(eS:∀k h,ec[k]? =some h→qR ints tables nf i ar al k h)(js:∀k h,eJ[k]? =some h→qR ints tables nf i ar al k h)
 (h1:ec.length≤al.length) (h2:1≤ec.length) (h3:eJ.length≤al.length) (h4:1≤eJ.length) (h5:ec.length=al.length∨eJ.length=al.length):gN nf ar i ⟨[(97+i).toUInt8],bP ints tables,[ec,eJ]⟩:=
 ⟨rfl,ints,tables,al,i1,i3,t1,bm,rfl,by show 1≤2;omega,xk 2,by
  rcases h5 with h|h
  ·exact⟨ec,by simp,h⟩
  ·exact⟨eJ,by simp,h⟩,fun l hl=>by
  rcases xG.1 hl with rfl|hl
  ·exact⟨h2,h1,eS⟩
  ·rw[xy] at hl;subst hl;exact⟨h4,h3,js⟩⟩
theorem az{rows:List (List D)}{n:Nat}(h:rows.length=n):aN .n8 [.sl rows]=some (jD n):=by rw[←h];rfl
theorem b9(bx:(flags.map Fg.d).length≤2)(hi:i<(dN ar).length)(gg:(dN ar).length≤3)(uB:comps.length=i)(cA:∀l∈ar,1≤l.length∧l.length≤3∧∀n∈l,n≤2){al:List Nat}(bm:ar[i]? =some al)(aF:al.length=min 3 (max 1 (max p.hs.length p.second.length)))
 (H:∀c:Cm,gN (flags.map Fg.d).length ar i c→Rn F X 11 7 (eD ar parts len (i+1) flags links (comps++[c])) Q):
 ∀(f k:Nat),k+f=p.tables.toNat%2→Rn F X 11 9 (cD ar i parts len (kn 116 (p.tables.toNat%2)) (p.tables.toNat%2) k flags links comps p (bP (1+p.ints.toNat%3) k)) Q:=by
 have nN:=V' (1+p.ints.toNat%3);intro f
 induction f with
 |zero=>
  intro k hk;have uA:(comps.map Cm.r).length=comps.length:=xm _;have hA:(p.hs.map Cd.d).length=p.hs.length:=xm _;have hB:(p.second.map Cd.d).length=p.second.length:=xm _;obtain rfl:k=p.tables.toNat%2:=by omega
  have t1:p.tables.toNat%2≤1:=by omega
  have i1:1≤1+p.ints.toNat%3:=by omega
  have i3:1+p.ints.toNat%3≤3:=by omega
  refine wr rfl<|wn rfl af<|wo rfl (j4 (b:=3) .u8 (by omega))<|wo rfl oC<|wo rfl (gE (a:=1) (by omega))<|wo rfl (j4 (b:=2) .u8 (by omega))<|jo<|wo rfl oC<|wo rfl bl<|wo rfl bl<|wl rfl (wZ _ 3) rfl<|v9<|wo rfl (kZ (by omega))<|wo rfl bl ?_;rw[ED];rcases xI p.hs.length with h0|h0
  ·have e1:(p.hs.take (min (p.hs.map Cd.d).length 3))=[]:=by rw[xE.1 h0];rfl
   rw[e1];refine wg 3 rfl<|wx rfl (wN (cs:=[⟨1,[]⟩]) (bs:=[]) (params:=0) (left:=0) i1 i3 t1 bx hi gg cA bm (by show 1≤_;omega)) fun|_,⟨ec,params,bs,left,rfl,fy,eS⟩=>⟨rfl,?_⟩
   refine iW<|wg 3 rfl<|wo rfl bl ?_;have l1:ec.length=max 1 (min 3 p.hs.length):=by rw[fy];show 1=_;omega
   rcases xI p.second.length with g0|g0
   ·refine Wp.cN rfl ch (by rw[hB];omega)<|wg 2 rfl<|lE<|wo rfl oP<|wo rfl oA ?_
    (have:=H ⟨[(97+i).toUInt8],bP (1+p.ints.toNat%3) (p.tables.toNat%2),[ec]⟩ (gN.one i1 i3 t1 bm eS (by omega) (by omega));unfold eD at this;rw[←zA] at this;exact Wp.jump rfl this)
   ·refine Wp.dB rfl ch (by rw[hB];omega)<|wo rfl bl<|lE<|wl rfl (wZ _ 3) rfl<|wo rfl (kZ (by omega))<|wg 1 rfl ?_;rw[ED];refine wx rfl (wN i1 i3 t1 bx hi gg cA bm (by rw[xz];omega)) fun|_,⟨eJ,Pk,Vh,CO,rfl,bF,js⟩=>⟨rfl,?_⟩
    refine wg 2 rfl<|sC<|wo rfl (fZ rfl rfl (by simp) (by simp))<|wg 2 rfl<|wo rfl oP<|wo rfl oA ?_;dsimp only [dS,Ex.r,St.r,List.cons_append,List.nil_append,jT,jS,jR,jQ,jP];refine Wp.jump rfl ?_;rw[xz] at bF;have:=H ⟨[(97+i).toUInt8],bP (1+p.ints.toNat%3) (p.tables.toNat%2),[ec,eJ]⟩ (gN.two i1 i3 t1 bm eS js (by omega) (by omega) (by omega) (by omega) (by omega));unfold eD at this;rw[←zA] at this;exact this
  ·refine Wp.cN rfl au (by rw[xm,xz];omega)<|wg 1 rfl<|wx rfl (wN (bs:=[]) (params:=0) (left:=0) i1 i3 t1 bx hi gg cA bm (by rw[xz];omega)) fun|_,⟨ec,params,bs,left,rfl,fy,eS⟩=>⟨rfl,?_⟩
   refine wg 2 rfl<|iW<|wg 1 rfl<|wo rfl bl ?_;rw[xz] at fy;have l1:ec.length=max 1 (min 3 p.hs.length):=by omega
   rcases xI p.second.length with g0|g0
   ·refine Wp.cN rfl ch (by rw[hB];omega)<|wg 2 rfl<|wo rfl oP<|lE<|wo rfl oA ?_
    (have:=H ⟨[(97+i).toUInt8],bP (1+p.ints.toNat%3) (p.tables.toNat%2),[ec]⟩ (gN.one i1 i3 t1 bm eS (by omega) (by omega));unfold eD at this;rw[←zA] at this;exact Wp.jump rfl this)
   ·refine Wp.dB rfl ch (by rw[hB];omega)<|wo rfl bl<|wl rfl (wZ _ 3) rfl<|lE<|wo rfl (kZ (by omega))<|wg 1 rfl ?_;rw[ED];refine wx rfl (wN i1 i3 t1 bx hi gg cA bm (by rw[xz];omega)) fun|_,⟨eJ,Pk,Vh,CO,rfl,bF,js⟩=>⟨rfl,?_⟩
    refine wg 2 rfl<|wo rfl (fZ rfl rfl (by simp) (by simp))<|sC<|wg 2 rfl<|wo rfl oP<|wo rfl oA<|Wp.jump rfl ?_;rw[xz] at bF;have:=H ⟨[(97+i).toUInt8],bP (1+p.ints.toNat%3) (p.tables.toNat%2),[ec,eJ]⟩ (gN.two i1 i3 t1 bm eS js (by omega) (by omega) (by omega) (by omega) (by omega));unfold eD at this;rw[←zA] at this;exact this
 |succ f ih=>
  intro k hk;refine wr rfl<|wy rfl af<|wo rfl (aA (mo (by omega)) rfl)<|wg 3 rfl<|wo rfl (fZ rfl rfl (by rw[nN];omega) (by rw[nN];omega))<|jo<|wo rfl oA ?_
  (have:=ih (k+1) (by omega);unfold cD at this;rw[←Xk] at this;exact Wp.jump rfl this)
theorem b8(H:Rn F X 11 9 (cD ar i parts len (kn 116 (p.tables.toNat%2)) (p.tables.toNat%2) 0 flags links comps p (bP (1+p.ints.toNat%3) 0)) Q):
 ∀(f k:Nat),k+f=1+p.ints.toNat%3→Rn F X 11 8 (cD ar i parts len (kn 120 (1+p.ints.toNat%3)) (1+p.ints.toNat%3) k flags links comps p (rS k)) Q:=by
 have hx:=V9;intro f
 induction f with
 |zero=>
  intro k hk;obtain rfl:k=1+p.ints.toNat%3:=by omega
  have:=H;unfold cD at this;rw[←Xl] at this;exact wr rfl<|wn rfl af<|wg 2 rfl<|wo rfl (fZ rfl rfl (by rw[hx];omega) (by rw[hx];omega))<|wo rfl (j4 (b:=2) .u8 (by omega))<|wo rfl oC<|jo<|wl rfl (kR (c:=116) (n:=p.tables.toNat%2) (by omega) (by omega)) rfl<|wo rfl (az (x6 _ _))<|wj this
 |succ f ih=>
  intro k hk;refine wr rfl<|wy rfl af<|wo rfl (aA (mo (by omega)) rfl)<|wg 3 rfl<|wo rfl (fZ rfl rfl (by rw[hx];omega) (by rw[hx];omega))<|jo<|wo rfl oA ?_
  (have:=ih (k+1) (by omega);unfold cD at this;rw[←Xj] at this;exact Wp.jump rfl this)
theorem b6(bx:(flags.map Fg.d).length≤2)(hi:i<(dN ar).length)(gg:(dN ar).length≤3)(uB:comps.length=i)(cA:∀l∈ar,1≤l.length∧l.length≤3∧∀n∈l,n≤2){al:List Nat}(bm:ar[i]? =some al)(aF:al.length=min 3 (max 1 (max p.hs.length p.second.length)))
 (H:∀c:Cm,gN (flags.map Fg.d).length ar i c→Rn F X 11 7 (eD ar parts len (i+1) flags links (comps++[c])) Q):
 ∀(f k:Nat),k+f=p.tables.toNat%2→Rn F X 11 6 (cD ar i parts len (kn 116 (p.tables.toNat%2)) (p.tables.toNat%2) k flags links comps p (bP (1+p.ints.toNat%3) k)) Q:=by
 have nN:=V' (1+p.ints.toNat%3);intro f
 induction f with
 |zero=>
  intro k hk;have uA:(comps.map Cm.r).length=comps.length:=xm _;have hA:(p.hs.map Cd.d).length=p.hs.length:=xm _;have hB:(p.second.map Cd.d).length=p.second.length:=xm _;obtain rfl:k=p.tables.toNat%2:=by omega
  have t1:p.tables.toNat%2≤1:=by omega
  have i1:1≤1+p.ints.toNat%3:=by omega
  have i3:1+p.ints.toNat%3≤3:=by omega
  refine wr rfl<|wn rfl af<|wo rfl (j4 (b:=3) .u8 (by omega))<|wo rfl oC<|wo rfl (gE (a:=1) (by omega))<|wo rfl (j4 (b:=2) .u8 (by omega))<|jo<|wo rfl oC<|wo rfl bl<|wo rfl bl<|wl rfl (wZ _ 3) rfl<|v9<|wo rfl (kZ (by omega))<|wo rfl bl ?_;rw[ED];rcases xI p.hs.length with h0|h0
  ·have e1:(p.hs.take (min (p.hs.map Cd.d).length 3))=[]:=by rw[xE.1 h0];rfl
   rw[e1];refine wg 3 rfl<|wx rfl (wN (cs:=[⟨1,[]⟩]) (bs:=[]) (params:=0) (left:=0) i1 i3 t1 bx hi gg cA bm (by show 1≤_;omega)) fun|_,⟨ec,params,bs,left,rfl,fy,eS⟩=>⟨rfl,?_⟩
   refine iW<|wg 3 rfl<|wo rfl bl ?_;have l1:ec.length=max 1 (min 3 p.hs.length):=by rw[fy];show 1=_;omega
   rcases xI p.second.length with g0|g0
   ·refine Wp.cN rfl ch (by rw[hB];omega)<|wg 2 rfl<|lE<|wo rfl oP<|wo rfl oA ?_
    (have:=H ⟨[(97+i).toUInt8],bP (1+p.ints.toNat%3) (p.tables.toNat%2),[ec]⟩ (gN.one i1 i3 t1 bm eS (by omega) (by omega));unfold eD at this;rw[←zA] at this;exact Wp.jump rfl this)
   ·refine Wp.dB rfl ch (by rw[hB];omega)<|wo rfl bl<|lE<|wl rfl (wZ _ 3) rfl<|wo rfl (kZ (by omega))<|wg 1 rfl ?_;rw[ED];refine wx rfl (wN i1 i3 t1 bx hi gg cA bm (by rw[xz];omega)) fun|_,⟨eJ,Pk,Vh,CO,rfl,bF,js⟩=>⟨rfl,?_⟩
    refine wg 2 rfl<|sC<|wo rfl (fZ rfl rfl (by simp) (by simp))<|wg 2 rfl<|wo rfl oP<|wo rfl oA ?_;dsimp only [dS,Ex.r,St.r,List.cons_append,List.nil_append,jT,jS,jR,jQ,jP];refine Wp.jump rfl ?_;rw[xz] at bF;have:=H ⟨[(97+i).toUInt8],bP (1+p.ints.toNat%3) (p.tables.toNat%2),[ec,eJ]⟩ (gN.two i1 i3 t1 bm eS js (by omega) (by omega) (by omega) (by omega) (by omega));unfold eD at this;rw[←zA] at this;exact this
  ·refine Wp.cN rfl au (by rw[xm,xz];omega)<|wg 1 rfl<|wx rfl (wN (bs:=[]) (params:=0) (left:=0) i1 i3 t1 bx hi gg cA bm (by rw[xz];omega)) fun|_,⟨ec,params,bs,left,rfl,fy,eS⟩=>⟨rfl,?_⟩
   refine wg 2 rfl<|iW<|wg 1 rfl<|wo rfl bl ?_;rw[xz] at fy;have l1:ec.length=max 1 (min 3 p.hs.length):=by omega
   rcases xI p.second.length with g0|g0
   ·refine Wp.cN rfl ch (by rw[hB];omega)<|wg 2 rfl<|wo rfl oP<|lE<|wo rfl oA ?_
    (have:=H ⟨[(97+i).toUInt8],bP (1+p.ints.toNat%3) (p.tables.toNat%2),[ec]⟩ (gN.one i1 i3 t1 bm eS (by omega) (by omega));unfold eD at this;rw[←zA] at this;exact Wp.jump rfl this)
   ·refine Wp.dB rfl ch (by rw[hB];omega)<|wo rfl bl<|wl rfl (wZ _ 3) rfl<|lE<|wo rfl (kZ (by omega))<|wg 1 rfl ?_;rw[ED];refine wx rfl (wN i1 i3 t1 bx hi gg cA bm (by rw[xz];omega)) fun|_,⟨eJ,Pk,Vh,CO,rfl,bF,js⟩=>⟨rfl,?_⟩
    refine wg 2 rfl<|wo rfl (fZ rfl rfl (by simp) (by simp))<|sC<|wg 2 rfl<|wo rfl oP<|wo rfl oA<|Wp.jump rfl ?_;rw[xz] at bF;have:=H ⟨[(97+i).toUInt8],bP (1+p.ints.toNat%3) (p.tables.toNat%2),[ec,eJ]⟩ (gN.two i1 i3 t1 bm eS js (by omega) (by omega) (by omega) (by omega) (by omega));unfold eD at this;rw[←zA] at this;exact this
 |succ f ih=>
  intro k hk;refine wr rfl<|wy rfl af<|wo rfl (aA (mo (by omega)) rfl)<|wg 3 rfl<|wo rfl (fZ rfl rfl (by rw[nN];omega) (by rw[nN];omega))<|jo<|wo rfl oA ?_
  (have:=ih (k+1) (by omega);unfold cD at this;rw[←Xk] at this;exact Wp.jump rfl this)
theorem b5(H:Rn F X 11 6 (cD ar i parts len (kn 116 (p.tables.toNat%2)) (p.tables.toNat%2) 0 flags links comps p (bP (1+p.ints.toNat%3) 0)) Q):
 ∀(f k:Nat),k+f=1+p.ints.toNat%3→Rn F X 11 5 (cD ar i parts len (kn 120 (1+p.ints.toNat%3)) (1+p.ints.toNat%3) k flags links comps p (rS k)) Q:=by
 have hx:=V9;intro f
 induction f with
 |zero=>
  intro k hk;obtain rfl:k=1+p.ints.toNat%3:=by omega
  have:=H;unfold cD at this;rw[←Xl] at this;exact wr rfl<|wn rfl af<|wg 2 rfl<|wo rfl (fZ rfl rfl (by rw[hx];omega) (by rw[hx];omega))<|wo rfl (j4 (b:=2) .u8 (by omega))<|wo rfl oC<|jo<|wl rfl (kR (c:=116) (n:=p.tables.toNat%2) (by omega) (by omega)) rfl<|wo rfl (az (x6 _ _))<|wj this
 |succ f ih=>
  intro k hk;refine wr rfl<|wy rfl af<|wo rfl (aA (mo (by omega)) rfl)<|wg 3 rfl<|wo rfl (fZ rfl rfl (by rw[hx];omega) (by rw[hx];omega))<|jo<|wo rfl oA ?_
  (have:=ih (k+1) (by omega);unfold cD at this;rw[←Xj] at this;exact Wp.jump rfl this)
theorem bv8(bx:(flags.map Fg.d).length≤2)(hn:(parts.map Pt.d).length=(dN ar).length)(gg:(dN ar).length≤3)(uB:comps.length=i)(cA:∀l∈ar,1≤l.length∧l.length≤3∧∀n∈l,n≤2)
 (bm:∀(i:Nat) (p:Pt),parts[i]? =some p→∃al,ar[i]? =some al∧al.length=min 3 (max 1 (max p.hs.length p.second.length))) (hi:i<(parts.map Pt.d).length)
 (H:∀c:Cm,gN (flags.map Fg.d).length ar i c→Rn F X 11 7 (eD ar parts (parts.map Pt.d).length (i+1) flags links (comps++[c])) Q):Rn F X 11 7 (eD ar parts (parts.map Pt.d).length i flags links comps) Q:=by
 obtain⟨p,hp,H0⟩:=AE hi;obtain⟨al,ha,H4⟩:=bm i p hp;have:=b8 (ar:=ar) (i:=i) (parts:=parts) (len:=(parts.map Pt.d).length) (flags:=flags) (links:=links) (comps:=comps) (p:=p) (Q:=Q) (b9 bx (by omega) gg uB cA ha H4 H (p.tables.toNat%2) 0 (by omega)) (1+p.ints.toNat%3) 0 (by omega);exact wr rfl<|wy rfl af<|wo rfl (aA H0 rfl)<|wg 1 rfl<|kF<|wy rfl (po (n:=3))<|wo rfl (Kc (n:=3) (by omega) (by omega))<|wo rfl (j4 (b:=3) .u8 (by omega))<|wo rfl oC<|wo rfl (gE (a:=1) (by omega))<|lG<|wl rfl (kR (c:=120) (n:=1+p.ints.toNat%3) (by omega) (by omega)) rfl<|wo rfl (az (x6 _ _))<|wj this
theorem bv9(bx:(flags.map Fg.d).length≤2)(hn:(parts.map Pt.d).length=(dN ar).length)(gg:(dN ar).length≤3)(uB:comps.length=i)(cA:∀l∈ar,1≤l.length∧l.length≤3∧∀n∈l,n≤2)
 (bm:∀(i:Nat) (p:Pt),parts[i]? =some p→∃al,ar[i]? =some al∧al.length=min 3 (max 1 (max p.hs.length p.second.length))) (hi:i<(parts.map Pt.d).length)
 (H:∀c:Cm,gN (flags.map Fg.d).length ar i c→Rn F X 11 7 (eD ar parts (parts.map Pt.d).length (i+1) flags links (comps++[c])) Q):Rn F X 11 4 (eD ar parts (parts.map Pt.d).length i flags links comps) Q:=by
 obtain⟨p,hp,H0⟩:=AE hi;obtain⟨al,ha,H4⟩:=bm i p hp;have:=b5 (ar:=ar) (i:=i) (parts:=parts) (len:=(parts.map Pt.d).length) (flags:=flags) (links:=links) (comps:=comps) (p:=p) (Q:=Q) (b6 bx (by omega) gg uB cA ha H4 H (p.tables.toNat%2) 0 (by omega)) (1+p.ints.toNat%3) 0 (by omega);exact wr rfl<|wy rfl af<|wo rfl (aA H0 rfl)<|wg 1 rfl<|kF<|wy rfl (po (n:=3))<|wo rfl (Kc (n:=3) (by omega) (by omega))<|wo rfl (j4 (b:=3) .u8 (by omega))<|wo rfl oC<|wo rfl (gE (a:=1) (by omega))<|lG<|wl rfl (kR (c:=120) (n:=1+p.ints.toNat%3) (by omega) (by omega)) rfl<|wo rfl (az (x6 _ _))<|wj this
def aS1(flags:List Fg)(links:List Lk)(ar:List (List Nat))(o:List D):Prop:=∃cs:List Cm,o=[.str [102,108,101,101,116,49],.sl (flags.map Fg.d),.sl (links.map Lk.d),.sl (cs.map Cm.r)]∧cs.length=ar.length∧∀i c,cs[i]? =some c→gN flags.length ar i c
theorem b7(bx:(flags.map Fg.d).length≤2)(hn:(parts.map Pt.d).length=(dN ar).length)(gg:(dN ar).length≤3)(cA:∀l∈ar,1≤l.length∧l.length≤3∧∀n∈l,n≤2)
 (bm:∀(i:Nat) (p:Pt),parts[i]? =some p→∃al,ar[i]? =some al∧al.length=min 3 (max 1 (max p.hs.length p.second.length))):
 ∀(f i:Nat),i+f=(parts.map Pt.d).length→∀(comps:List Cm),comps.length=i→(∀i c,comps[i]? =some c→gN flags.length ar i c)→Rn F X 11 7 (eD ar parts (parts.map Pt.d).length i flags links comps) (aS1 flags links ar):=by
 intro f
 induction f with
 |zero=>
  intro i hi comps hc hk;exact wr rfl<|wn rfl af<|wt rfl ⟨comps,rfl,by rw[←zP];omega,hk⟩
 |succ f ih=>
  intro i hi comps hc hk;refine bv8 bx hn gg hc cA bm (by omega) (fun c ho=>ih (i+1) (by omega) (comps++[c]) (by simp;omega) (IQ hc hk ?_));rw[xm] at ho;exact ho
theorem b4(bx:(flags.map Fg.d).length≤2)(hn:(parts.map Pt.d).length=(dN ar).length)(gg:(dN ar).length≤3)(dG7:1≤(dN ar).length)(cA:∀l∈ar,1≤l.length∧l.length≤3∧∀n∈l,n≤2)
 (bm:∀(i:Nat) (p:Pt),parts[i]? =some p→∃al,ar[i]? =some al∧al.length=min 3 (max 1 (max p.hs.length p.second.length))):Rn F X 11 4 (eD ar parts (parts.map Pt.d).length 0 flags links []) (aS1 flags links ar):=
 bv9 bx hn gg rfl cA bm (by omega) (fun c ho=>b7 bx hn gg cA bm ((parts.map Pt.d).length - 1) 1 (by omega) [c] rfl (IQ (l:=[]) rfl (fun i c h=>by simp at h) (by rw[xm] at ho;exact ho)))
theorem bo1(ar:List (List Nat))(l:List Nat):dN ar++[[.sl (kj l)]]=dN (ar++[l]):=by simp[dN,kj]
def ap0(parts:List Pt)(ar:List (List Nat))(n:Nat):Prop:=ar.length=n∧(∀l∈ar,1≤l.length∧l.length≤3∧∀n∈l,n≤2)∧∀(i:Nat) (p:Pt),i<n→parts[i]? =some p→∃al,ar[i]? =some al∧al.length=min 3 (max 1 (max p.hs.length p.second.length))
theorem b3(bA:parts.length≤3)(H:∀ar,ap0 parts ar parts.length→Rn F X 11 4 (eD ar parts (parts.map Pt.d).length 0 flags links []) Q):∀(f i:Nat),i+f=parts.length→∀ar,ap0 parts ar i→Rn F X 11 3 [.sl (parts.map Pt.d),.sl (dN ar),jD (parts.map Pt.d).length,jD i,.sl (flags.map Fg.d),.sl (links.map Lk.d)] Q:=by
 have gi:(parts.map Pt.d).length=parts.length:=xm _;intro f
 induction f with
 |zero=>
  intro i hi ar ha;obtain rfl:i=parts.length:=by omega
  exact wr rfl<|wn rfl af<|wo rfl bl<|wj (H ar ha)
 |succ f ih=>
  intro i hi ar ha;obtain⟨p,hp,H0⟩:=AE (f:=Pt.d) (l:=parts) (i:=i) (by omega);obtain⟨mc,NN,U7⟩:=ha;refine wr rfl<|wy rfl af<|wo rfl (aA H0 rfl)<|wg 1 rfl<|cW<|wg 1 rfl<|wx rfl (bn9 p) fun|_,⟨al,rfl,bm,iw⟩=>⟨rfl,?_⟩
  refine wg 2 rfl<|wo rfl (fZ rfl rfl (by rw[zP];omega) (by rw[zP];omega))<|wo rfl oA<|dC<|Wp.jump rfl ?_;have:=ih (i+1) (by omega) (ar++[al]) ⟨by rw[xa,mc];rfl,fun l h=>by
   rcases xF.1 h with h|h
   ·exact NN l h
   ·rw[xy] at h;subst h;exact⟨by omega,by omega,iw⟩,fun j q hj hq=>by
   rcases Nat.lt_or_ge j i with aX|dX
   ·obtain⟨N3,h1,h2⟩:=U7 j q aX hq;exact⟨N3,by rw[xw (by omega)];exact h1,h2⟩
   ·obtain rfl:j=i:=by omega
    rw[hp] at hq;cases hq;exact⟨al,by rw[xq (by omega),mc,Nat.sub_self];rfl,bm⟩⟩
  rw[←bo1] at this;exact this
theorem Pn(a b:Nat)(h:1≤b):aN (.bin .rem 0) [.int .u8 (a:Nat),.int .u8 (b:Nat)]=some (.int .u8 ((a%b:Nat):Int)):=j4 .u8 h
def zc(n:Nat)(ks:List (Nat×Nat)):List Lk:=ks.map (fun p=>(⟨[(97+p.1/n).toUInt8],[(97+p.1%n).toUInt8],p.2⟩:Lk))
theorem da3(n k t:Nat)(ks:List (Nat×Nat)):(zc n ks).map Lk.d++[[.str [(97+k/n).toUInt8],.str [(97+k%n).toUInt8],iD t]]=(zc n (ks++[(k,t)])).map Lk.d:=by simp[zc,Lk.d]
def vA(n k:Nat)(ks:List (Nat×Nat)):Prop:=ks.length≤k∧ks.Pairwise (fun p q=>p.1<q.1)∧∀p∈ks,p.1<k∧p.1<n*n∧1≤p.2∧p.2≤3
theorem vA.mono{n k:Nat}{ks:List (Nat×Nat)}(h:vA n k ks):vA n (k+1) ks:=⟨by have:=h.1;omega,h.2.1,fun p hp=>by have:=h.2.2 p hp;exact⟨by omega,this.2⟩⟩
theorem vA.snoc{n k t:Nat}{ks:List (Nat×Nat)}(h:vA n k ks)(hk:k<n*n)(h1:1≤t)(h3:t≤3):vA n (k+1) (ks++[(k,t)]):=
 ⟨by have:=h.1;rw[xa];show ks.length+1≤_;omega,List.pairwise_append.2 ⟨h.2.1,List.pairwise_singleton _ _,fun a ha b hb=>by rw[xy] at hb;subst hb;exact(h.2.2 a ha).1⟩,fun p hp=>by
  rcases xF.1 hp with hp|hp
  ·have:=h.2.2 p hp;exact⟨by omega,this.2⟩
  ·rw[xy] at hp;subst hp;exact⟨by show k<k+1;omega,hk,h1,h3⟩⟩
theorem bn4{L:List UInt8}{k:Nat}(h:k<(bO L).length):∃b:UInt8,(bO L)[k]? =some [bD b.toNat]:=(AE h).imp fun _ h=>h.2
theorem b2{n:Nat}{L:List UInt8}{fl:Nat}{C:List Pt}(Bl:1≤n)(ww:n≤3)(hn:(parts.map Pt.d).length=n)
 (H:∀ks,vA n (n*n) ks→Rn F X 11 3 [.sl (parts.map Pt.d),.sl (dN []),jD (parts.map Pt.d).length,jD 0,.sl (flags.map Fg.d),.sl ((zc n ks).map Lk.d)] Q):
 ∀(f k:Nat),k+f=n*n→∀ks,vA n k ks→Rn F X 11 2 [jD n,.sl (parts.map Pt.d),jD k,bD fl,.sl (bO L),.sl (C.map Pt.d),.sl (flags.map Fg.d),.sl ((zc n ks).map Lk.d)] Q:=by
 have hn9:n*n≤9:=Nat.mul_le_mul ww ww;have H3:∀ks,((zc n ks).map Lk.d).length=ks.length:=fun ks=>by simp[zc]
 intro f
 induction f with
 |zero=>
  intro k hk ks gJ;obtain rfl:k=n*n:=by omega
  refine wr rfl<|wo rfl bl<|Wp.aQ rfl af (fun h=> ?_) (fun h=> ?_)
  ·exact wo rfl (YE (by omega))<|wn rfl af<|wo rfl bl<|wj (H ks gJ)
  ·exact wo rfl bl<|wj (H ks gJ)
 |succ f ih=>
  intro k hk ks gJ;have hd:k/n<n:=Nat.div_lt_of_lt_mul (by omega);have hm:k%n<n:=Nat.mod_lt _ Bl;have hkl:=gJ.1;have up:vA n (n*n) ks:=⟨by omega,gJ.2.1,fun p hp=>by have:=gJ.2.2 p hp;exact⟨by omega,this.2⟩⟩;refine wr rfl<|wo rfl bl<|Wp.aQ rfl af (fun h=> ?_) (fun h=> ?_)
  ·refine wo rfl (YE (by omega))<|wy rfl af ?_
   (obtain⟨b,Er⟩:=bn4 (k:=k) (L:=L) (by omega);refine Wp.op rfl (aA Er rfl) rfl ?_)
   refine wg 1 rfl<|kF<|wo rfl (j4 (b:=4) .u8 (by omega))<|Wp.aQ rfl ch (fun h=> ?_) (fun h=> ?_)
   ·refine wo rfl (bB7 Bl (by omega))<|wy rfl (po (n:=3))<|wo rfl (Kc (n:=n) (by omega) (by omega))<|wo rfl (j4 (b:=n) .i64 Bl)<|lG<|wy rfl (po (n:=3))<|wo rfl (Kc (n:=n) (by omega) (by omega))<|wo rfl (aA Er rfl)<|wg 1 rfl<|wo rfl (j4 (b:=4) .u8 (by omega))<|jo<|wo rfl oC<|wg 2 rfl<|wo rfl (fZ rfl rfl (by rw[H3];omega) (by rw[H3];omega))<|wo rfl oA<|v9 ?_
    (have:=ih (k+1) (by omega) (ks++[(k,b.toNat%4)]) (gJ.snoc (by omega) (by omega) (by omega));rw[←da3] at this;exact Wp.jump rfl this)
   ·exact wo rfl oA<|Wp.jump rfl (ih (k+1) (by omega) ks gJ.mono)
  ·exact wo rfl bl<|wj (H ks up)
theorem aJ2(flags:List Fg)(n:aL)(b:Bool):flags.map Fg.d++[[.str n,.bool b]]=(flags++[(⟨n,b⟩:Fg)]).map Fg.d:=by simp[Fg.d]
theorem b1{n:Nat}{L:List UInt8}{fl:Nat}{C:List Pt}(H':fl%3≤2)
 (H:∀flags:List Fg,flags.length=fl%3→(∀k x,flags[k]? =some x→x.name=nm 102 k)→Rn F X 11 2 [jD n,.sl (parts.map Pt.d),jD 0,bD fl,.sl (bO L),.sl (C.map Pt.d),.sl (flags.map Fg.d),.sl []] Q):
 ∀(f k:Nat),k+f=fl%3→∀flags:List Fg,flags.length=k→(∀k x,flags[k]? =some x→x.name=nm 102 k)→Rn F X 11 1 [jD n,.sl (parts.map Pt.d),.sl (kn 102 (fl%3)),jD (fl%3),jD k,bD fl,.sl (bO L),.sl (C.map Pt.d),.sl (flags.map Fg.d)] Q:=by
 intro f
 induction f with
 |zero=>
  intro k hk flags hl hx;exact wr rfl<|wn rfl af<|Wp.jump rfl (H flags (by omega) hx)
 |succ f ih=>
  intro k hk flags hl hx;have UY:(flags.map Fg.d).length=flags.length:=xm _;refine wr rfl<|wy rfl af<|wo rfl (aA (mo (by omega)) rfl)<|wg 1 rfl<|wo rfl (gE (a:=4) (by omega))<|wo rfl bB6<|jq<|wo rfl (j4 (b:=2) .u8 (by omega))<|Wp.aQ rfl au (fun h=> ?_) (fun h=> ?_)
  ·refine wg 2 rfl<|wo rfl oP<|wo rfl oA<|fK ?_
   (have:=ih (k+1) (by omega) (flags++[⟨nm 102 k,true⟩]) (by simp;omega) (IQ hl hx rfl);rw[←aJ2] at this;exact Wp.jump rfl this)
  ·refine wg 2 rfl<|wo rfl oP<|wo rfl oA<|fK ?_
   (have:=ih (k+1) (by omega) (flags++[⟨nm 102 k,false⟩]) (by simp;omega) (IQ hl hx rfl);rw[←aJ2] at this;exact Wp.jump rfl this)
theorem ptT(l:List Pt)(k:Nat):(l.map Pt.d).take k=(l.take k).map Pt.d:=by rw[List.map_take]
def Za(o:List D):Prop:=∃f ar,o=dK.r f∧gZ ar f
theorem V5{n:Nat}{L:List UInt8}{fl:Nat}{C:List Pt}(Bl:1≤n)(ww:n≤3)(hn:parts.length=n):Rn F X 11 1 [jD n,.sl (parts.map Pt.d),.sl (kn 102 (fl%3)),jD (fl%3),jD 0,bD fl,.sl (bO L),.sl (C.map Pt.d),.sl []] Za:=by
 have gi:(parts.map Pt.d).length=parts.length:=xm _;refine b1 (by omega) (fun flags hf hx=> ?_) (fl%3) 0 (by omega) [] rfl (fun k x h=>by simp at h);have UY:(flags.map Fg.d).length=flags.length:=xm _;refine b2 Bl ww (by omega) (fun ks gJ=> ?_) (n*n) 0 (by omega) [] ⟨xL _,.nil,fun p h=>by cases h⟩;refine b3 (by omega) (fun ar ha=> ?_) parts.length 0 (by omega) [] ⟨rfl,fun l h=>(by cases h),fun i p h=>by omega⟩;have bm:ar.length=n:=by rw[ha.1,hn]
 refine(b4 (by omega) (by rw[zP,bm];omega) (by rw[zP];omega) (by rw[zP];omega) ha.2.1 (fun i p h=>ha.2.2 i p (xe.1 h).1 h)).mono ?_;rintro _ ⟨cs,rfl,hl,hc⟩;refine⟨⟨[102,108,101,101,116,49],flags,zc n ks,cs⟩,ar,rfl,rfl,⟨by show flags.length≤2;omega,hx⟩,⟨ks,by rw[bm];rfl,gJ.2.1,fun p hp=>by rw[bm];have:=gJ.2.2 p hp;exact⟨this.2.1,this.2.2⟩⟩,⟨hl,by omega,by omega⟩,ha.2.1,hc⟩
theorem O9(p:DP):Rn F X 11 0 p.d Za:=by
 obtain⟨fl,L,C⟩:=p;have hC:(C.map Pt.d).length=C.length:=xm _;refine wr rfl<|wo rfl bl<|wl rfl (wZ _ 3) rfl<|wo rfl (kZ (by omega))<|Wp.aQ rfl au (fun h=> ?_) (fun h=> ?_)
 ·exact wo rfl (j4 (b:=3) .u8 (by omega))<|w7<|wo rfl oC<|wl rfl (kR (c:=102) (n:=fl.toNat%3) (by omega) (by omega)) rfl<|wo rfl (az (x6 _ _))<|wg 1 rfl<|cW<|Wp.jump rfl (V5 (parts:=[⟨0,0,[],[]⟩]) (n:=1) (by omega) (by omega) rfl)
 ·refine wo rfl (j4 (b:=3) .u8 (by omega))<|w7<|wo rfl oC<|wl rfl (kR (c:=102) (n:=fl.toNat%3) (by omega) (by omega)) rfl<|wo rfl (az (x6 _ _)) ?_
  (dsimp only at h;have:=V5 (X:=X) (parts:=C.take (min (C.map Pt.d).length 3)) (n:=min (C.map Pt.d).length 3) (L:=L) (fl:=fl.toNat) (C:=C) (by omega) (by omega) (by rw[xz];omega);rw[←ptT] at this;exact Wp.jump rfl this)
end
end Go.Proofs.YtnjdjocokegphaaGreatDoor
namespace Go.Fl
open Go.Ex
inductive ke (P:Ex→Prop):Ex→Prop
 |mk {op:Nat} {name:aL} {n:Nat} {args:List Ex} (h:P ⟨op,name,n,args⟩) (ha:∀a∈args,ke P a):ke P ⟨op,name,n,args⟩
def GN:List aL:=[[102,108,101,101,116,49],nm 102 0,nm 102 1,[97],[98],[99],nm 120 0,nm 120 1,nm 120 2,nm 98 0,nm 116 0,nm 104 0,nm 104 1,nm 104 2,nm 112 0,nm 112 1]
def jU(op:Nat):Nat:=if op=6∨op=7∨op=9∨op=10 then 1 else if 11≤op then 2 else 0
structure iC (e:Ex):Prop where
 op:∃op name n args,e=⟨op,name,n,args⟩∧1≤op∧op≤23∧args.length=jU op∧(op=1∧n≤8∨op≠1∧n=0)∧(5≤op∧op≤8∧name∈GN∨(op<5∨8<op)∧name=[])
theorem iC.of{op:Nat}{name:aL}{n:Nat}{args:List Ex}(h1:1≤op)(h2:op≤23)(h3:args.length=jU op)(h4:op=1∧n≤8∨op≠1∧n=0)(h5:5≤op∧op≤8∧name∈GN∨(op<5∨8<op)∧name=[]):iC ⟨op,name,n,args⟩:=⟨op,name,n,args,rfl,h1,h2,h3,h4,h5⟩
theorem iC.get{op:Nat}{name:aL}{n:Nat}{args:List Ex}(h:iC ⟨op,name,n,args⟩):1≤op∧op≤23∧args.length=jU op∧(op=1∧n≤8∨op≠1∧n=0)∧(5≤op∧op≤8∧name∈GN∨(op<5∨8<op)∧name=[]):=by
 obtain⟨_,_,_,_,e,h⟩:=h;cases e;exact h
theorem MD{k:Nat}(h:k<3):nm 120 k∈GN:=by
 have:k=0∨k=1∨k=2:=by omega
 rcases this with rfl|rfl|rfl<;>decide
theorem TF{k:Nat}(h:k<3):nm 104 k∈GN:=by
 have:k=0∨k=1∨k=2:=by omega
 rcases this with rfl|rfl|rfl<;>decide
theorem ME{k:Nat}(h:k<3):[(97+k).toUInt8]∈GN:=by
 have:k=0∨k=1∨k=2:=by omega
 rcases this with rfl|rfl|rfl<;>decide
theorem aJ0{k:Nat}(h:k<2):nm 102 k∈GN:=by
 have:k=0∨k=1:=by omega
 rcases this with rfl|rfl<;>decide
theorem aI9{k:Nat}(h:k<2):nm 112 k∈GN:=by
 have:k=0∨k=1:=by omega
 rcases this with rfl|rfl<;>decide
theorem DC:nm 116 0∈GN:=by decide
theorem TG:nm 98 0∈GN:=by decide
structure Sc.Ok (c:Sc):Prop where
 i:c.ints≤3
 t:c.tables≤1
 f:c.flags≤2
 p:c.params≤2
theorem fh.all{c:Sc}(hc:c.Ok){d:Nat}{e:Ex}(h:fh c d e):ke iC e:=by
 have h1:=hc.i;have h2:=hc.p
 induction h with
 |num n h=>exact .mk (.of (by omega) (by omega) rfl (.inl ⟨rfl,h⟩) (.inr ⟨by omega,rfl⟩)) (fun a h=>by cases h)
 |var k h=>exact .mk (.of (by omega) (by omega) rfl (.inr ⟨by omega,rfl⟩) (.inl ⟨by omega,by omega,MD (by omega)⟩)) (fun a h=>by cases h)
 |lH k h=>exact .mk (.of (by omega) (by omega) rfl (.inr ⟨by omega,rfl⟩) (.inl ⟨by omega,by omega,aI9 (by omega)⟩)) (fun a h=>by cases h)
 |now=>exact .mk (.of (by omega) (by omega) rfl (.inr ⟨by omega,rfl⟩) (.inr ⟨by omega,rfl⟩)) (fun a h=>by cases h)
 |get h _ ih=>exact .mk (.of (by omega) (by omega) rfl (.inr ⟨by omega,rfl⟩) (.inl ⟨by omega,by omega,DC⟩)) (fun a h=>by rw[xy] at h;subst h;exact ih)
 |size h=>exact .mk (.of (by omega) (by omega) rfl (.inr ⟨by omega,rfl⟩) (.inl ⟨by omega,by omega,DC⟩)) (fun a h=>by cases h)
 |neg _ ih=>exact .mk (.of (by omega) (by omega) rfl (.inr ⟨by omega,rfl⟩) (.inr ⟨by omega,rfl⟩)) (fun a h=>by rw[xy] at h;subst h;exact ih)
 |bin op a b _ _ ko eB=>exact .mk (.of (by omega) (by omega) (by unfold jU;rw[if_neg (by omega),if_pos (by omega)];rfl) (.inr ⟨by omega,rfl⟩) (.inr ⟨by omega,rfl⟩)) (fun a h=>by
  rcases xG.1 h with rfl|h
  ·exact ko
  ·rw[xy] at h;subst h;exact eB)
theorem j8.all{c:Sc}(hc:c.Ok){d:Nat}{e:Ex}(h:j8 c d e):ke iC e:=by
 have h1:=hc.f
 induction h with
 |lit op a b=>exact .mk (.of (by omega) (by omega) (by unfold jU;rw[if_neg (by omega),if_neg (by omega)];rfl) (.inr ⟨by omega,rfl⟩) (.inr ⟨by omega,rfl⟩)) (fun a h=>by cases h)
 |b0=>exact .mk (.of (by omega) (by omega) rfl (.inr ⟨by omega,rfl⟩) (.inl ⟨by omega,by omega,TG⟩)) (fun a h=>by cases h)
 |flag k h=>exact .mk (.of (by omega) (by omega) rfl (.inr ⟨by omega,rfl⟩) (.inl ⟨by omega,by omega,aJ0 (by omega)⟩)) (fun a h=>by cases h)
 |has h he=>exact .mk (.of (by omega) (by omega) rfl (.inr ⟨by omega,rfl⟩) (.inl ⟨by omega,by omega,DC⟩)) (fun a h=>by rw[xy] at h;subst h;exact he.all hc)
 |not _ ih=>exact .mk (.of (by omega) (by omega) rfl (.inr ⟨by omega,rfl⟩) (.inr ⟨by omega,rfl⟩)) (fun a h=>by rw[xy] at h;subst h;exact ih)
 |It op a b _ _ ko eB=>exact .mk (.of (by omega) (by omega) (by unfold jU;rw[if_neg (by omega),if_pos (by omega)];rfl) (.inr ⟨by omega,rfl⟩) (.inr ⟨by omega,rfl⟩)) (fun a h=>by
  rcases xG.1 h with rfl|h
  ·exact ko
  ·rw[xy] at h;subst h;exact eB)
 |cmp op a b ha hb=>exact .mk (.of (by omega) (by omega) (by unfold jU;rw[if_neg (by omega),if_pos (by omega)];rfl) (.inr ⟨by omega,rfl⟩) (.inr ⟨by omega,rfl⟩)) (fun a h=>by
  rcases xG.1 h with rfl|h
  ·exact ha.all hc
  ·rw[xy] at h;subst h;exact hb.all hc)
theorem FF{α β:Type}(f:α→β)(pre:List α)(a:α)(ae:List α):((pre++a::ae).map f)[pre.length]? =some (f a):=by
 rw[List.map_append,xq (by simp)];simp
end Go.Fl
namespace Go.Proofs.YtnjdjocokegphaaGreatDoor
open Go.Ex Go.RowKit Go.Fl
section
variable{X:Nat→List D→Option (List D)}
theorem Yv:∀(l:List Fl.Ex),Ex.rs l=l.map Ex.r
 |[]=>rfl
 |e::l=>by show Ex.r e::Ex.rs l=_;rw[Yv l];rfl
theorem Cn:∀(l:List Fl.Ex),Ex.ss l=l.map Ex.s
 |[]=>rfl
 |e::l=>by show Ex.s e::Ex.ss l=_;rw[Cn l];rfl
theorem Xr:∀(l:List St),St.rs l=l.map St.r
 |[]=>rfl
 |e::l=>by show St.r e::St.rs l=_;rw[Xr l];rfl
theorem EX:∀(l:List St),St.ss l=l.map St.s
 |[]=>rfl
 |e::l=>by show St.s e::St.ss l=_;rw[EX l];rfl
theorem Yu(pre:List Fl.Ex)(a:Fl.Ex)(ae:List Fl.Ex):(Ex.rs (pre++a::ae))[pre.length]? =some (Ex.r a):=by rw[Yv];exact FF _ _ _ _
theorem rN(pre:List Fl.Ex)(a:Fl.Ex)(ae:List Fl.Ex):(Ex.ss (pre++a::ae))[pre.length]? =some (Ex.s a):=by rw[Cn];exact FF _ _ _ _
theorem bp7(pre:List St)(a:St)(ae:List St):(St.rs (pre++a::ae))[pre.length]? =some (St.r a):=by rw[Xr];exact FF _ _ _ _
theorem xW(pre:List St)(a:St)(ae:List St):(St.ss (pre++a::ae))[pre.length]? =some (St.s a):=by rw[EX];exact FF _ _ _ _
theorem Xq(l:List Fl.Ex)(e:Fl.Ex):Ex.ss l++[Ex.s e]=Ex.ss (l++[e]):=by simp[Cn]
theorem bh3(l:List St)(e:St):St.ss l++[St.s e]=St.ss (l++[e]):=by simp[EX]
theorem jf(l:List Fl.Ex):(Ex.ss l).length=l.length:=by simp[Cn]
theorem lR(l:List St):(St.ss l).length=l.length:=by simp[EX]
theorem aV{α:Type}(pre:List α)(a:α)(ae:List α):pre++a::ae=(pre++[a])++ae:=by simp
theorem bu5{e:Fl.Ex}(h:ke iC e):Rn F X 12 0 (Ex.r e) (·=Ex.s e):=by
 induction h with
 | @mk op name n args hn ha ih=>
  obtain⟨h1,h2,h3,h4,h5⟩:=hn.get;have eu:jU op≤2:=by unfold jU;split<;>(try split)<;>omega
  have loop:∀(ae pre:List Fl.Ex),args=pre++ae→Rn F X 12 1 [.sl (Ex.rs args),jD args.length,jD pre.length,bD op,.str name,iD n,.sl (Ex.ss pre)] (·=Ex.s ⟨op,name,n,args⟩):=by
   intro ae
   induction ae with
   |nil=>
    intro pre hp;rw[xj] at hp;subst hp;exact wr rfl<|wn rfl af<|wt rfl rfl
   |cons a ae cZ=>
    intro pre hp;have aF:args.length=pre.length+(ae.length+1):=by rw[hp,xa];rfl
    have aq:(Ex.rs args)[pre.length]? =some (Ex.r a):=by rw[hp];exact Yu _ _ _
    have mc:=ih a (by rw[hp];simp);have:=cZ (pre++[a]) (by rw[hp,aV]);rw[←Xq,xa] at this;obtain⟨o1,n1,i1,a1⟩:=a;exact wr rfl<|wy rfl af<|wo rfl (aA aq rfl)<|wg 1 rfl<|kF<|wl rfl mc rfl<|lG<|wg 2 rfl<|wo rfl (fZ rfl rfl (by rw[jf];omega) (by rw[jf];omega))<|wo rfl oA<|wj this
  exact wr rfl<|wo rfl (Fp (by omega))<|wo rfl (az (uY _))<|wj (loop args [] rfl)
end
end Go.Proofs.YtnjdjocokegphaaGreatDoor
namespace Go.Fl
open Go.Ex
mutual
def Ex.dp:Ex→Nat| .mk _ _ _ args=>Ex.dU args+1
def Ex.dU:List Ex→Nat|[]=>0|e::l=>max (Ex.dp e) (Ex.dU l)
end
theorem fh.dp{c:Sc}{d:Nat}{e:Ex}(h:fh c d e):e.dp≤d+1:=by
 induction h with
 |num n h=>simp[Ex.dp,Ex.dU]
 |var k h=>simp[Ex.dp,Ex.dU]
 |lH k h=>simp[Ex.dp,Ex.dU]
 |now=>simp[Ex.dp,Ex.dU]
 |get h _ ih=>simp[Ex.dp,Ex.dU];omega
 |size h=>simp[Ex.dp,Ex.dU]
 |neg _ ih=>simp[Ex.dp,Ex.dU];omega
 |bin op a b _ _ ko eB=>simp[Ex.dp,Ex.dU];omega
theorem j8.dp{c:Sc}{d:Nat}{e:Ex}(h:j8 c d e):e.dp≤d+1:=by
 induction h with
 |lit op a b=>simp[Ex.dp,Ex.dU]
 |b0=>simp[Ex.dp,Ex.dU]
 |flag k h=>simp[Ex.dp,Ex.dU]
 |has h he=>have:=he.dp;simp[Ex.dp,Ex.dU];omega
 |not _ ih=>simp[Ex.dp,Ex.dU];omega
 |It op a b _ _ ko eB=>simp[Ex.dp,Ex.dU];omega
 |cmp op a b ha hb=>have:=ha.dp;have:=hb.dp;simp[Ex.dp,Ex.dU];omega
inductive gO (P:St→Prop):St→Prop
 |mk {kind:Nat} {name bV:aL} {bg:List Ex} {th el:List St} (h:P ⟨kind,name,bV,bg,th,el⟩) (h1:∀s∈th,gO P s) (h2:∀s∈el,gO P s):gO P ⟨kind,name,bV,bg,th,el⟩
theorem gO.head{P:St→Prop}{s:St}(h:gO P s):P s:=by cases h;assumption
structure R6 (kind:Nat) (name bV:aL) (bg:List Ex) (th el:List St):Prop where
 k1:1≤kind
 wh:kind≤10
 ex:∀e∈bg,ke iC e∧e.dp≤6
 nm:(kind=1∨kind=2∨kind=3∨kind=6∨kind=9)∧name∈GN∨(kind=4∨kind=5∨kind=7∨kind=8∨kind=10)∧name=[]
 hn:(kind=6∨kind=7)∧bV∈GN∨(kind≠6∧kind≠7)∧bV=[]
 ln:(kind=1∨kind=3∨kind=4∨kind=5∨kind=9)∧bg.length=1∨(kind=2∨kind=8)∧bg.length=2∨kind=6∧bg.length≤2∨kind=7∧1≤bg.length∧bg.length≤3∨kind=10∧bg.length=0
 thn:kind=4∨kind=5∨th=[]
 eln:kind=4∨kind=8∨kind=9∨el=[]
 tl:th.length≤12
 ll:el.length≤12
def mj:St→Prop| .mk kind name bV bg th el=>R6 kind name bV bg th el
structure Wd.Ok (w:Wd):Prop where
 sc:w.sc.Ok
 Iu:w.ar.length≤3
 uK:∀l∈w.ar,l.length≤3∧∀n∈l,n≤2
theorem jB{α:Type}{l:List α}{i:Nat}{a:α}(h:l[i]? =some a):i<l.length:=(xe.1 h).1
theorem tW{α:Type}{P:α→Prop}{a:α}(h:P a):∀x∈[a],P x:=fun x hx=>by rw[xy] at hx;subst hx;exact h
theorem Mc{α:Type}{P:α→Prop}{a b:α}(h:P a)(k:P b):∀x∈[a,b],P x:=fun x hx=>by
 rcases xG.1 hx with rfl|hx
 ·exact h
 ·exact tW k x hx
theorem lD.node{w:Wd}(hw:w.Ok){B:List St→Prop}{s:St}(h:lD w B s)(hn:s.n≤12):mj s:=by
 have ie:∀{e:Ex},fh w.sc 3 e→ke iC e∧e.dp≤6:=fun h=>⟨h.all hw.sc,by have:=h.dp;omega⟩
 have be:∀{e:Ex},j8 w.sc 5 e→ke iC e∧e.dp≤6:=fun h=>⟨h.all hw.sc,by have:=h.dp;omega⟩
 have hi:=hw.sc.i;have aF:∀l:List St,St.ns l≤12→l.length≤12:=fun l h=>xH (Go.Proofs.YtnjdjocokegphaaGreatDoor.mW l) h
 have hz:([]:List St).length≤12:=xL _;cases h with
 |my k hk he=>exact⟨by omega,by omega,tW (ie he),.inl ⟨by omega,MD (by omega)⟩,.inr ⟨by omega,rfl⟩,.inl ⟨by omega,rfl⟩,.inr (.inr rfl),.inr (.inr (.inr rfl)),hz,hz⟩
 |Dg he=>exact⟨by omega,by omega,tW (be he),.inl ⟨by omega,TG⟩,.inr ⟨by omega,rfl⟩,.inl ⟨by omega,rfl⟩,.inr (.inr rfl),.inr (.inr (.inr rfl)),hz,hz⟩
 |put h ha hb=>exact⟨by omega,by omega,Mc (ie ha) (ie hb),.inl ⟨by omega,DC⟩,.inr ⟨by omega,rfl⟩,.inr (.inl ⟨by omega,rfl⟩),.inr (.inr rfl),.inr (.inr (.inr rfl)),hz,hz⟩
 |del h ha=>exact⟨by omega,by omega,tW (ie ha),.inl ⟨by omega,DC⟩,.inr ⟨by omega,rfl⟩,.inl ⟨by omega,rfl⟩,.inr (.inr rfl),.inr (.inr (.inr rfl)),hz,hz⟩
 | @cond e he th el h1 h2=>have gH:=hn;simp[St.n] at gH;exact⟨by omega,by omega,tW (be he),.inr ⟨by omega,rfl⟩,.inr ⟨by omega,rfl⟩,.inl ⟨by omega,rfl⟩,.inl rfl,.inl rfl,aF _ (by simp[St.ns] at*;omega),aF _ (by simp[St.ns] at*;omega)⟩
 |G3 he h1=>have gH:=hn;simp[St.n] at gH;exact⟨by omega,by omega,tW (be he),.inr ⟨by omega,rfl⟩,.inr ⟨by omega,rfl⟩,.inl ⟨by omega,rfl⟩,.inr (.inl rfl),.inr (.inr (.inr rfl)),aF _ (by simp[St.ns] at*;omega),hz⟩
 |send i h n hi' hh he hn=>
  have q1:=jB hi';have q2:=jB hh
  have q3:=hw.uK _ (xu hi');have q4:=q3.2 _ (xu hh);have q5:=hw.Iu;exact⟨by omega,by omega,fun e h=>ie (he e h),.inl ⟨by omega,ME (by omega)⟩,.inl ⟨by omega,TF (by omega)⟩,.inr (.inr (.inl ⟨rfl,by omega⟩)),.inr (.inr rfl),.inr (.inr (.inr rfl)),hz,hz⟩
 |DM h n hi' hh he hn=>
  have q1:=jB hi';have q2:=jB hh
  have q3:=hw.uK _ (xu hi');have q4:=q3.2 _ (xu hh);exact⟨by omega,by omega,fun e h=>ie (he e h),.inr ⟨by omega,rfl⟩,.inl ⟨by omega,TF (by omega)⟩,.inr (.inr (.inr (.inl ⟨rfl,by omega,by omega⟩))),.inr (.inr rfl),.inr (.inr (.inr rfl)),hz,hz⟩
 |store ha hb h2=>have gH:=hn;simp[St.n] at gH;exact⟨by omega,by omega,Mc (ie ha) (ie hb),.inr ⟨by omega,rfl⟩,.inr ⟨by omega,rfl⟩,.inr (.inl ⟨by omega,rfl⟩),.inr (.inr rfl),.inr (.inl rfl),hz,aF _ (by simp[St.ns] at*;omega)⟩
 |GO k hk ha h2=>have gH:=hn;simp[St.n] at gH;exact⟨by omega,by omega,tW (ie ha),.inl ⟨by omega,MD (by omega)⟩,.inr ⟨by omega,rfl⟩,.inl ⟨by omega,rfl⟩,.inr (.inr rfl),.inr (.inr (.inl rfl)),hz,aF _ (by simp[St.ns] at*;omega)⟩
 |stop=>exact⟨by omega,by omega,fun e h=>(by cases h),.inr ⟨by omega,rfl⟩,.inr ⟨by omega,rfl⟩,.inr (.inr (.inr (.inr ⟨rfl,rfl⟩))),.inr (.inr rfl),.inr (.inr (.inr rfl)),hz,hz⟩
theorem YN:∀{l:List St} {s:St},s∈l→s.n≤St.ns l
 |t::l,s,h=>by
  rcases xG.1 h with rfl|h
  ·simp[St.ns]
  ·have:=YN h;simp[St.ns];omega
theorem lD.nest{w:Wd}{B:List St→Prop}{kind:Nat}{name bV:aL}{bg:List Ex}{th el:List St}(h:lD w B ⟨kind,name,bV,bg,th,el⟩):(th=[]∨B th)∧(el=[]∨B el):=by
 cases h with
 |cond he h1 h2=>exact⟨.inr h1,.inr h2⟩
 |G3 he h1=>exact⟨.inr h1,.inl rfl⟩
 |store ha hb h2=>exact⟨.inl rfl,.inr h2⟩
 |GO k hk ha h2=>exact⟨.inl rfl,.inr h2⟩
 |my|Dg|put|del|send|DM|stop=>exact⟨.inl rfl,.inl rfl⟩
theorem kY.all{w:Wd}(hw:w.Ok):∀{d:Nat} {l:List St},kY w d l→St.ns l≤12→∀s∈l,gO mj s
 |0,l,h,_,s,hs=>by rw[show l=[] from h] at hs;cases hs
 |d+1,l,h,hn,s,hs=>by
  have h1:=h s hs;have h2:=YN hs;have h3:=h1.node hw (by omega);obtain⟨kind,name,bV,bg,th,el⟩:=s;simp only [St.n] at h2;obtain⟨n1,n2⟩:=h1.nest;refine .mk h3 (fun s hs=> ?_) (fun s hs=> ?_)
  ·rcases n1 with rfl|n1
   ·cases hs
   ·exact kY.all hw n1 (by omega) s hs
  ·rcases n2 with rfl|n2
   ·cases hs
   ·exact kY.all hw n2 (by omega) s hs
end Go.Fl
namespace Go.Proofs.YtnjdjocokegphaaGreatDoor
open Go.Ex Go.RowKit Go.Fl
section
variable{X:Nat→List D→Option (List D)}
def Sub(P:List St→Prop):St→Prop| .mk _ _ _ _ th el=>P th∧P el
theorem gO.sub{P:List St→Prop}(H:∀l:List St,l.length≤12→(∀s∈l,mj s∧Sub P s)→P l){s:St}(h:gO mj s):Sub P s:=by
 induction h with
 | @mk kind name bV bg th el h h1 h2 ko eB=>exact⟨H th h.tl (fun s hs=>⟨(h1 s hs).head,ko s hs⟩),H el h.ll (fun s hs=>⟨(h2 s hs).head,eB s hs⟩)⟩
theorem gO.list{P:List St→Prop}(H:∀l:List St,l.length≤12→(∀s∈l,mj s∧Sub P s)→P l){l:List St}(hl:l.length≤12)(h:∀s∈l,gO mj s):P l:=H l hl (fun s hs=>⟨(h s hs).head,gO.sub H (h s hs)⟩)
theorem bn6{l:List St}(hl:l.length≤12)(h:∀s∈l,gO mj s):Rn F X 13 0 [.sl (St.rs l)] (·=[.sl (St.ss l)]):=by
 refine gO.list (P:=fun l=>Rn F X 13 0 [.sl (St.rs l)] (·=[.sl (St.ss l)])) ?_ hl h;clear hl h l;intro l hl h;have loop:∀(ae pre:List St),l=pre++ae→Rn F X 13 1 [.sl (St.ss pre),.sl (St.rs l),jD l.length,jD pre.length] (·=[.sl (St.ss l)]):=by
  intro ae
  induction ae with
  |nil=>
   intro pre hp;rw[xj] at hp;subst hp;exact wr rfl<|wn rfl af<|wt rfl rfl
  |cons a ae cZ=>
   intro pre hp;have aF:l.length=pre.length+(ae.length+1):=by rw[hp,xa];rfl
   have aq:(St.rs l)[pre.length]? =some (St.r a):=by rw[hp];exact bp7 _ _ _
   obtain⟨ha,hs⟩:=h a (by rw[hp];simp);have:=cZ (pre++[a]) (by rw[hp,aV]);rw[←bh3,xa] at this;obtain⟨kind,name,bV,bg,th,el⟩:=a;obtain⟨ec,eJ⟩:=hs;have dF8:=ha.wh;have fH:bg.length≤3:=by have:=ha.ln;omega
   have RP:∀(dt bB:List Fl.Ex),bg=bB++dt→Rn F X 13 2 [.sl (St.ss pre),.sl (St.rs l),jD l.length,jD pre.length,.sl (Ex.rs bg),jD bg.length,jD bB.length,bD kind,.str name,.str bV,.sl (Ex.ss bB),.sl (St.ss th),.sl (St.ss el)] (·=[.sl (St.ss l)]):=by
    intro dt
    induction dt with
    |nil=>
     intro bB bf;rw[xj] at bf;subst bf;exact wr rfl<|wn rfl af<|wg 2 rfl<|wo rfl (fZ rfl rfl (by rw[lR];omega) (by rw[lR];omega))<|wo rfl oA<|wj this
    |cons e dt eB=>
     intro bB bf;have vz:bg.length=bB.length+(dt.length+1):=by rw[bf,xa];rfl
     have kE:(Ex.rs bg)[bB.length]? =some (Ex.r e):=by rw[bf];exact Yu _ _ _
     have he:=(ha.ex e (by rw[bf];simp)).1;have Ze:=eB (bB++[e]) (by rw[bf,aV]);rw[←Xq,xa] at Ze;have fT:=bu5 (X:=X) he;obtain⟨o1,n1,i1,a1⟩:=e;exact wr rfl<|wy rfl af<|wo rfl (aA kE rfl)<|wg 1 rfl<|DU<|wl rfl fT rfl<|hO<|wg 2 rfl<|wo rfl (fZ rfl rfl (by rw[jf];omega) (by rw[jf];omega))<|wo rfl oA<|wj Ze
   exact wr rfl<|wy rfl af<|wo rfl (aA aq rfl)<|wg 1 rfl<|cW<|wo rfl (Fp (by omega))<|wl rfl ec rfl<|wl rfl eJ rfl<|wo rfl (az (uY _))<|dC<|wj (RP bg [] rfl)
 exact wr rfl<|wo rfl (az (I' _))<|wj (loop l [] rfl)
end
end Go.Proofs.YtnjdjocokegphaaGreatDoor
namespace Go.Fl
open Go.Ex
mutual
def St.dp:St→Nat| .mk _ _ _ _ th el=>max (St.dU th) (St.dU el)
def St.dU:List St→Nat|[]=>0|s::l=>max (St.dp s+1) (St.dU l)
end
structure BJ (h:Hn):Prop where
 name:h.name∈GN
 params:h.params.length≤2∧∀p∈h.params,p∈GN
 n:St.ns h.body≤12
 dp:St.dU h.body≤4
 len:h.body.length≤12
 body:∀s∈h.body,gO mj s
structure VrS (v:Vr):Prop where
 name:v.name∈GN
 type:v.type=1∧v.init≤2∨(v.type=2∨v.type=3)∧v.init=0
structure Iv (c:Cm):Prop where
 name:c.name∈GN
 vars:c.vars.length≤5∧∀v∈c.vars,VrS v
 vs:1≤c.bt.length∧c.bt.length≤2
 hs:∀l∈c.bt,l.length≤3∧∀h∈l,BJ h
structure LkS (l:Lk):Prop where
 src:l.src∈GN
 dst:l.dst∈GN
 zd:1≤l.zd∧l.zd≤3
structure tf (f:dK):Prop where
 name:f.name∈GN
 flags:f.flags.length≤2∧∀x∈f.flags,x.name∈GN
 links:f.links.length≤9∧∀x∈f.links,LkS x
 comps:1≤f.comps.length∧f.comps.length≤3∧∀x∈f.comps,Iv x
theorem Y1:∀{l:List St} {n:Nat},(∀s∈l,s.dp+1≤n)→St.dU l≤n
 |[],n,h=>xL _
 |s::l,n,h=>by
  have h1:=h s (by simp);have h2:=Y1 (l:=l) (fun t ht=>h t (by simp[ht]));simp only [St.dU];omega
theorem kY.dp{w:Wd}:∀{d:Nat} {l:List St},kY w d l→St.dU l≤d
 |0,l,h=>by rw[show l=[] from h];exact xk _
 |d+1,l,h=>Y1 fun s hs=>by
  have h1:=h s hs;obtain⟨kind,name,bV,bg,th,el⟩:=s;obtain⟨n1,n2⟩:=h1.nest;have e1:St.dU th≤d:=by
   rcases n1 with rfl|n1
   ·exact xL _
   ·exact kY.dp n1
  have e2:St.dU el≤d:=by
   rcases n2 with rfl|n2
   ·exact xL _
   ·exact kY.dp n2
  simp only [St.dp];omega
theorem rO{α:Type}{l:List α}{a:α}(h:a∈l):∃i:Nat,l[i]? =some a:=List.mem_iff_getElem?.1 h
theorem qR.ok{ints tables flags own:Nat}{ar:List (List Nat)}{al:List Nat}{k:Nat}{h:Hn}(hk:k<3)(i3:ints≤3)(t1:tables≤1)(f2:flags≤2)(Iu:ar.length≤3)(cA:∀l∈ar,1≤l.length∧l.length≤3∧∀n∈l,n≤2)(bm:al∈ar)(ho:qR ints tables flags own ar al k h):BJ h:=by
 obtain⟨n,hn,hp,hb⟩:=ho.lH;have iw:=(cA al bm).2.2 n (xu hn);have lK:h.params.length≤2∧∀p∈h.params,p∈GN:=by
  rw[hp];refine⟨by simp[bi];exact iw,fun p h=> ?_⟩;obtain⟨j,hj,rfl⟩:=xJ.1 h;exact aI9 (by have:=List.mem_range.1 hj;omega)
 exact⟨by rw[ho.name];exact TF hk,lK,ho.n,hb.dp,xH (Go.Proofs.YtnjdjocokegphaaGreatDoor.mW _) ho.n,hb.all ⟨⟨i3,t1,f2,iw⟩,Iu,fun l h=>(cA l h).2⟩ ho.n⟩
theorem gN.ok{nf i:Nat}{ar:List (List Nat)}{c:Cm}(f2:nf≤2)(Iu:ar.length≤3)(cA:∀l∈ar,1≤l.length∧l.length≤3∧∀n∈l,n≤2)(ho:gN nf ar i c):Iv c:=by
 obtain⟨ints,tables,al,i1,i3,t1,bm,hv,h1,h2,h3,h4⟩:=ho.rest;have hi:=jB bm;have hm:=xu bm;refine⟨by rw[ho.name];exact ME (by omega),⟨by rw[hv];simp;omega,fun v h=> ?_⟩,⟨h1,h2⟩,fun l hl=>⟨xH (h4 l hl).2.1 (cA al hm).2.1,fun h hh=> ?_⟩⟩
 ·rw[hv] at h;rcases xF.1 h with h|h
  ·obtain⟨j,hj,rfl⟩:=xJ.1 h;have:=List.mem_range.1 hj;exact⟨MD (by omega),.inl ⟨rfl,by show j≤2;omega⟩⟩
  ·rcases xG.1 h with rfl|h
   ·exact⟨TG,.inr ⟨.inl rfl,rfl⟩⟩
   ·obtain⟨j,hj,rfl⟩:=xJ.1 h;have:=List.mem_range.1 hj;obtain rfl:j=0:=by omega
    exact⟨DC,.inr ⟨.inr rfl,rfl⟩⟩
 ·obtain⟨k,hk⟩:=rO hh;have q:=(h4 l hl).2.1;have q2:=jB hk;have q3:=(cA al hm).2.1;exact((h4 l hl).2.2 k h hk).ok (by omega) i3 t1 f2 Iu cA hm
theorem gZ.ok{ar:List (List Nat)}{f:dK}(h:gZ ar f):tf f:=by
 have hn:=h.n;obtain⟨ks,gJ,hp,hk⟩:=h.links;have hk9:ar.length*ar.length≤9:=Nat.mul_le_mul hn.2.2 hn.2.2;refine⟨by rw[h.name];decide,⟨h.flags.1,fun x hx=> ?_⟩,⟨?_,fun x hx=> ?_⟩,⟨by omega,by omega,fun c hc=> ?_⟩⟩
 ·obtain⟨i,hi⟩:=rO hx;have:=jB hi;rw[h.flags.2 i x hi];exact aJ0 (by have:=h.flags.1;omega)
 ·rw[gJ,xm];have hb:∀(l:List (Nat×Nat)) (m:Nat),l.Pairwise (fun p q=>p.1<q.1)→(∀p∈l,m≤p.1∧p.1<9)→l.length+m≤9∨l=[]:=by
   intro l
   induction l with
   |nil=>intro m _ _;exact .inr rfl
   |cons p l ih=>
    intro m hp hm;have h1:=hm p (by simp);cases hp with
    |cons h2 h3=>
     rcases ih (p.1+1) h3 (fun q hq=>⟨h2 q hq,(hm q (by simp[hq])).2⟩) with h|rfl
     ·left;rw[xi];omega
     ·left;simp;omega
  rcases hb ks 0 hp (fun p hp=>⟨xL _,by have:=hk p hp;omega⟩) with h|rfl
  ·omega
  ·exact xL _
 ·rw[gJ] at hx;obtain⟨p,hp,rfl⟩:=xJ.1 hx;have h1:=hk p hp;have h2:p.1/ar.length<ar.length:=Nat.div_lt_of_lt_mul h1.1;have h3:p.1%ar.length<ar.length:=Nat.mod_lt _ hn.2.1;exact⟨ME (by omega),ME (by omega),h1.2⟩
 ·obtain⟨i,hi⟩:=rO hc;exact(h.comps i c hi).ok h.flags.1 hn.2.2 h.uK
end Go.Fl
namespace Go.Proofs.YtnjdjocokegphaaGreatDoor
open Go.Ex Go.RowKit Go.Fl
section
variable{X:Nat→List D→Option (List D)}
theorem bR{α:Type}{f:α→List D}{l pre ae:List α}{a:α}(h:l=pre++a::ae):(l.map f)[pre.length]? =some (f a):=by subst h;exact FF _ _ _ _
theorem bj{α:Type}{l pre ae:List α}{a:α}(h:l=pre++a::ae):l.length=pre.length+(ae.length+1):=by rw[h,xa];rfl
theorem Cb{α:Type}(f:α→List D)(l:List α)(a:α):l.map f++[f a]=(l++[a]).map f:=by simp
theorem bW{α:Type}(f:α→List D)(l:List α):(l.map f).length=l.length:=xm _
theorem IJ(l:List aL):∀row∈strs l,row.length=1∧row.all D.cell=true:=by
 intro row h;obtain⟨p,_,rfl⟩:=xJ.1 h;exact⟨rfl,rfl⟩
def MW(vs:List (List Hn)):List (List D):=vs.map fun l=>[.sl (l.map Hn.r)]
def cr(vs:List (List Hn)):List (List D):=vs.map fun l=>[.sl (l.map Hn.s)]
theorem bb1{cs:List Cm}{nm:aL}{A B:List (List D)}(h3:cs.length≤3)(hc:∀c∈cs,Iv c):∀(ae pre:List Cm),cs=pre++ae→Rn F X 14 3 [.sl (cs.map Cm.r),jD cs.length,jD pre.length,.str nm,.sl A,.sl B,.sl (pre.map Cm.s)] (·=[.str nm,.sl A,.sl B,.sl (cs.map Cm.s)]):=by
 intro ae
 induction ae with
 |nil=>
  intro pre hp;rw[xj] at hp;subst hp;exact wr rfl<|wn rfl af<|wt rfl rfl
 |cons c ae cZ=>
  intro pre hp;have aF:=bj hp;have aq:=bR (f:=Cm.r) hp;have bZ:=hc c (by rw[hp];simp);have next:=cZ (pre++[c]) (by rw[hp,aV]);rw[←Cb,xa] at next;obtain⟨cn,vars,vs⟩:=c;have hvn:vars.length≤5:=bZ.vars.1;have iK:vs.length≤2:=bZ.vs.2;have j5:∀(dt bB:List (List Hn)),vs=bB++dt→Rn F X 14 5 [.sl (cs.map Cm.r),jD cs.length,jD pre.length,.sl (MW vs),jD vs.length,jD bB.length,.str nm,.sl A,.sl B,.sl (pre.map Cm.s),.str cn,.sl (vars.map Vr.s),.sl (cr bB)] (·=[.str nm,.sl A,.sl B,.sl (cs.map Cm.s)]):=by
   intro dt
   induction dt with
   |nil=>
    intro bB bf;rw[xj] at bf;subst bf;exact wr rfl<|wn rfl af<|wg 2 rfl<|wo rfl (fZ rfl rfl (by rw[bW];omega) (by rw[bW];omega))<|wo rfl oA<|wj next
   |cons v dt eB=>
    intro bB bf;have vz:=bj bf;have kE:(MW vs)[bB.length]? =some [.sl (v.map Hn.r)]:=bR (f:=fun l:List Hn=>[D.sl (l.map Hn.r)]) bf;have ii:=eB (bB++[v]) (by rw[bf,aV]);have es:cr (bB++[v])=cr bB++[[.sl (v.map Hn.s)]]:=by simp[cr]
    rw[es,xa] at ii;have hv:=bZ.hs v (by show v∈vs;rw[bf];simp);have gi:(cr bB).length=bB.length:=xm _;have lh:∀(dA bp:List Hn),v=bp++dA→Rn F X 14 6 [.sl (cs.map Cm.r),jD cs.length,jD pre.length,.sl (MW vs),jD vs.length,jD bB.length,.sl (v.map Hn.r),jD v.length,jD bp.length,.str nm,.sl A,.sl B,.sl (pre.map Cm.s),.str cn,.sl (vars.map Vr.s),.sl (cr bB),.sl (bp.map Hn.s)] (·=[.str nm,.sl A,.sl B,.sl (cs.map Cm.s)]):=by
     intro dA
     induction dA with
     |nil=>
      intro bp bA;rw[xj] at bA;subst bA;exact wr rfl<|wn rfl af<|wg 2 rfl<|wo rfl oP<|wo rfl oA<|wj ii
     |cons h dA lJ=>
      intro bp bA;have vw:=bj bA;have gf:=bR (f:=Hn.r) bA;have fe:=lJ (bp++[h]) (by rw[bA,aV]);rw[←Cb,xa] at fe;have hh:=hv.2 h (by rw[bA];simp);have hb:=bn6 (X:=X) hh.len hh.body;have UD:=hv.1;obtain⟨hn,lK,Er⟩:=h;have dF2:lK.length≤2:=hh.params.1;have fX:(strs lK).length=lK.length:=xm _;exact wr rfl<|wy rfl af<|wo rfl (aA gf rfl)<|wg 1 rfl<|eH<|wg 1 rfl<|wo rfl (zT (rows:=[]) (IJ _) (by simp;omega) (by simp;omega))<|wl rfl hb rfl<|wg 2 rfl<|wo rfl (fZ rfl rfl (by rw[bW];omega) (by rw[bW];omega))<|qT<|wo rfl oA<|wj fe
    exact wr rfl<|wy rfl af<|wo rfl (aA kE rfl)<|wg 1 rfl<|wo rfl (az (bW _ _))<|wj (lh v [] rfl)
  have FI:∀(dt bB:List Vr),vars=bB++dt→Rn F X 14 4 [.sl (cs.map Cm.r),jD cs.length,jD pre.length,.sl (vars.map Vr.r),jD vars.length,jD bB.length,.str nm,.sl A,.sl B,.sl (pre.map Cm.s),.str cn,.sl (MW vs),.sl (bB.map Vr.s)] (·=[.str nm,.sl A,.sl B,.sl (cs.map Cm.s)]):=by
   intro dt
   induction dt with
   |nil=>
    intro bB bf;rw[xj] at bf;subst bf;exact wr rfl<|wn rfl af<|wo rfl (az (xm _))<|wj (j5 vs [] rfl)
   |cons v dt eB=>
    intro bB bf;have vz:=bj bf;have kE:=bR (f:=Vr.r) bf;have ii:=eB (bB++[v]) (by rw[bf,aV]);rw[←Cb,xa] at ii;have hv:=(bZ.vars.2 v (by show v∈vars;rw[bf];simp)).type;obtain⟨vn,vt,vi⟩:=v;have hvt:vt≤3:=by simp at hv;omega
    exact wr rfl<|wy rfl af<|wo rfl (aA kE rfl)<|wg 1 rfl<|fK<|wo rfl (Fp (by omega))<|wg 2 rfl<|wo rfl (fZ rfl rfl (by rw[bW];omega) (by rw[bW];omega))<|wo rfl oA<|eH<|wj ii
  exact wr rfl<|wy rfl af<|wo rfl (aA aq rfl)<|wg 1 rfl<|cW<|wo rfl (az (bW _ _))<|wj (FI vars [] rfl)
theorem bb0{f:dK}(hf:tf f):Rn F X 14 0 f.r (·=f.s):=by
 obtain⟨nm,fl,lk,cs⟩:=f;have H':fl.length≤2:=hf.flags.1;have H3:lk.length≤9:=hf.links.1;have bZ:cs.length≤3:=hf.comps.2.1;have Aa:∀(ae pre:List Lk),lk=pre++ae→Rn F X 14 2 [.sl (lk.map Lk.d),jD lk.length,jD pre.length,.str nm,.sl (fl.map Fg.d),.sl (cs.map Cm.r),.sl (fl.map Fg.d),.sl (pre.map Lk.d)] (·=[.str nm,.sl (fl.map Fg.d),.sl (lk.map Lk.d),.sl (cs.map Cm.s)]):=by
  intro ae
  induction ae with
  |nil=>
   intro pre hp;rw[xj] at hp;subst hp;exact wr rfl<|wn rfl af<|wo rfl (az (bW _ _))<|Wp.jump rfl (bb1 bZ hf.comps.2.2 cs [] rfl)
  |cons v ae ih=>
   intro pre hp;have aF:=bj hp;have aq:=bR (f:=Lk.d) hp;have next:=ih (pre++[v]) (by rw[hp,aV]);rw[←Cb,xa] at next;obtain⟨a,b,c⟩:=v;exact wr rfl<|wy rfl af<|wo rfl (aA aq rfl)<|wg 1 rfl<|kF<|wg 2 rfl<|wo rfl (fZ rfl rfl (by rw[bW];omega) (by rw[bW];omega))<|wo rfl oA<|wj next
 have Aw:∀(ae pre:List Fg),fl=pre++ae→Rn F X 14 1 [.sl (fl.map Fg.d),jD fl.length,jD pre.length,.str nm,.sl (lk.map Lk.d),.sl (cs.map Cm.r),.sl (pre.map Fg.d)] (·=[.str nm,.sl (fl.map Fg.d),.sl (lk.map Lk.d),.sl (cs.map Cm.s)]):=by
  intro ae
  induction ae with
  |nil=>
   intro pre hp;rw[xj] at hp;subst hp;exact wr rfl<|wn rfl af<|wo rfl (az (bW _ _))<|wj (Aa lk [] rfl)
  |cons v ae ih=>
   intro pre hp;have aF:=bj hp;have aq:=bR (f:=Fg.d) hp;have next:=ih (pre++[v]) (by rw[hp,aV]);rw[←Cb,xa] at next;obtain⟨a,b⟩:=v;cases b
   ·exact wr rfl<|wy rfl af<|wo rfl (aA aq rfl)<|wg 2 rfl<|mK<|wg 2 rfl<|wo rfl (fZ rfl rfl (by rw[bW];omega) (by rw[bW];omega))<|wo rfl oA<|wj next
   ·exact wr rfl<|wy rfl af<|wo rfl (aA aq rfl)<|wg 1 rfl<|mK<|wg 2 rfl<|wo rfl (fZ rfl rfl (by rw[bW];omega) (by rw[bW];omega))<|wo rfl oA<|wj next
 exact wr rfl<|wo rfl (az (bW _ _))<|wj (Aw fl [] rfl)
end
structure Ky where
 k:Nat
 a:Nat
 b:Nat
 n:Nat
deriving DecidableEq
structure Ch where
 key:Ky
 tick:Nat
 d:Nat
 args:List Int
deriving DecidableEq
def jh(l:List Int):List (List D):=l.map fun x=>[.int .i64 x]
def Ky.dd(x:Ky):List D:=[bD x.k,iD x.a,iD x.b,iD x.n]
def Ch.dd(c:Ch):List D:=[bD c.key.k,iD c.key.a,iD c.key.b,iD c.key.n,iD c.tick,iD c.d,.sl (jh c.args)]
def lA(a b:Nat):Int:=if a<b then -1 else if b<a then 1 else 0
def AP(x y:Ky):Int:=if lA x.k y.k≠0 then lA x.k y.k else if lA x.a y.a≠0 then lA x.a y.a else if lA x.b y.b≠0 then lA x.b y.b else lA x.n y.n
def KL(x y:Ky):Prop:=x.k<y.k∨x.k=y.k∧(x.a<y.a∨x.a=y.a∧(x.b<y.b∨x.b=y.b∧x.n<y.n))
instance(x y:Ky):Decidable (KL x y):=by unfold KL;exact inferInstance
theorem I4{a b:Nat}:lA a b<0↔a<b:=by unfold lA;split<;>(try split)<;>simp<;>omega
theorem zG{a b:Nat}:lA a b=0↔a=b:=by unfold lA;split<;>(try split)<;>simp<;>omega
theorem IY{x y:Ky}:AP x y<0↔KL x y:=by
 have h1:= @I4 x.k y.k;have h2:= @zG x.k y.k;have h3:= @I4 x.a y.a;have h4:= @zG x.a y.a
 have h5:= @I4 x.b y.b;have h6:= @zG x.b y.b;have h7:= @I4 x.n y.n
 unfold AP KL;split
 ·rename_i h;rw[ne_eq,h2] at h;rw[h1];omega
 ·rename_i h;simp only [ne_eq,h2,Decidable.not_not] at h;split
  ·rename_i g;rw[ne_eq,h4] at g;rw[h3];omega
  ·rename_i g;simp only [ne_eq,h4,Decidable.not_not] at g;split
   ·rename_i f;rw[ne_eq,h6] at f;rw[h5];omega
   ·rename_i f;simp only [ne_eq,h6,Decidable.not_not] at f;rw[h7];omega
theorem Ww{x y:Ky}:AP x y=0↔x=y:=by
 have h2:= @zG x.k y.k;have h4:= @zG x.a y.a;have h6:= @zG x.b y.b;have h8:= @zG x.n y.n
 have he:x=y↔x.k=y.k∧x.a=y.a∧x.b=y.b∧x.n=y.n:=by cases x;cases y;simp
 rw[he];unfold AP;split
 ·rename_i h;rw[ne_eq,h2] at h;rw[h2];omega
 ·rename_i h;simp only [ne_eq,h2,Decidable.not_not] at h;split
  ·rename_i g;rw[ne_eq,h4] at g;rw[h4];omega
  ·rename_i g;simp only [ne_eq,h4,Decidable.not_not] at g;split
   ·rename_i f;rw[ne_eq,h6] at f;rw[h6];omega
   ·rename_i f;simp only [ne_eq,h6,Decidable.not_not] at f;rw[h8];omega
theorem KL.Ns{x:Ky}: ¬KL x x:=by unfold KL;omega
theorem KL.trans{x y z:Ky}(h:KL x y)(g:KL y z):KL x z:=by unfold KL at*;omega
theorem KL.total{x y:Ky}(h:x≠y)(g: ¬KL x y):KL y x:=by
 have he:x=y↔x.k=y.k∧x.a=y.a∧x.b=y.b∧x.n=y.n:=by cases x;cases y;simp
 rw[ne_eq,he] at h;unfold KL at*;omega
theorem Fo{x y:Ky}{neg:Bool}:aN (.nW [.u8,.i64,.i64,.i64] neg) [.agg x.dd,.agg y.dd]=some (.bool (decide (x=y) !=neg)):=by
 have he:x=y↔x.k=y.k∧x.a=y.a∧x.b=y.b∧x.n=y.n:=by cases x;cases y;simp
 show(ph [.u8,.i64,.i64,.i64] x.dd y.dd).map (fun r=>D.bool (r !=neg))=_;have:ph [.u8,.i64,.i64,.i64] x.dd y.dd=some (decide (x=y)):=by
  unfold Ky.dd;simp only [ph,and_self,if_true,Option.map_some]
  congr 1
  rw[Bool.eq_iff_iff];simp only [xf,decide_eq_true_eq,Bool.and_true,he];omega
 rw[this];rfl
section
variable{X:Nat→List D→Option (List D)}
theorem PR(a b:Nat):Rn F X 120 0 [iD a,iD b] (·=[.int .i64 (lA a b)]):=by
 unfold lA;by_cases h1:a<b
 ·rw[if_pos h1];exact wr rfl<|Wp.cN rfl ew (by simp)<|Wp.cN rfl ew (by simp)<|wy rfl af<|wt rfl rfl
 ·rw[if_neg h1];by_cases h2:b<a
  ·rw[if_pos h2];exact wr rfl<|Wp.cN rfl ew (by simp)<|Wp.cN rfl ew (by simp)<|wn rfl af<|wy rfl ch<|wt rfl rfl
  ·rw[if_neg h2];exact wr rfl<|Wp.cN rfl ew (by simp)<|Wp.cN rfl ew (by simp)<|wn rfl af<|wn rfl ch<|wt rfl rfl
theorem bv0(a b:Nat):Rn F X 119 0 [bD a,bD b] (·=[.int .i64 (lA a b)]):=by
 unfold lA;by_cases h1:a<b
 ·rw[if_pos h1];exact wr rfl<|Wp.cN rfl ew (by simp)<|Wp.cN rfl ew (by simp)<|wy rfl af<|wt rfl rfl
 ·rw[if_neg h1];by_cases h2:b<a
  ·rw[if_pos h2];exact wr rfl<|Wp.cN rfl ew (by simp)<|Wp.cN rfl ew (by simp)<|wn rfl af<|wy rfl ch<|wt rfl rfl
  ·rw[if_neg h2];exact wr rfl<|Wp.cN rfl ew (by simp)<|Wp.cN rfl ew (by simp)<|wn rfl af<|wn rfl ch<|wt rfl rfl
theorem pZ(x y:Ky):Rn F X 121 0 (x.dd++y.dd) (·=[.int .i64 (AP x y)]):=by
 have c0:=bv0 (X:=X) x.k y.k;have c1:=PR (X:=X) x.a y.a;have c2:=PR (X:=X) x.b y.b;have c3:=PR (X:=X) x.n y.n;have s1:∀{z:Int},z≠0→aN (.bin .neq 0) [.int .i64 z,.int .i64 0]=some (.bool true):=fun h=>by rw[ew,decide_eq_true h]
 have s0:∀{z:Int},¬z≠0→aN (.bin .neq 0) [.int .i64 z,.int .i64 0]=some (.bool false):=fun h=>by rw[ew,decide_eq_false h]
 unfold AP;refine wr rfl<|wl rfl c0 rfl<|wl rfl c1 rfl<|wl rfl c2 rfl<|wl rfl c3 rfl ?_;by_cases h0:lA x.k y.k≠0
 ·rw[if_pos h0];exact Wp.s7 rfl (s1 h0) (wt rfl rfl)
 rw[if_neg h0];refine Wp.uI rfl (s0 h0) ?_;by_cases h1:lA x.a y.a≠0
 ·rw[if_pos h1];exact Wp.s7 rfl (s1 h1) (wt rfl rfl)
 rw[if_neg h1];refine Wp.uI rfl (s0 h1) ?_;by_cases h2:lA x.b y.b≠0
 ·rw[if_pos h2];exact Wp.s7 rfl (s1 h2) (wt rfl rfl)
 rw[if_neg h2];refine Wp.uI rfl (s0 h2) ?_;by_cases h3:lA x.n y.n≠0
 ·exact Wp.s7 rfl (s1 h3) (wt rfl rfl)
 ·refine Wp.uI rfl (s0 h3) (wt rfl ?_);simp only [ne_eq,Decidable.not_not] at h3;rw[h3]
theorem O6{c:Ch}(h:c.args.length≤1000):Rn F X 128 0 c.dd (·=c.dd):=by
 have ha:aN (.app 1 8) [.sl [],.sl (jh c.args)]=some (.sl (jh c.args)):=zT (rows:=[]) (q:=jh c.args) (fun row hr=>by obtain⟨x,_,rfl⟩:=xJ.1 hr;exact⟨rfl,rfl⟩) (by simp[jh];omega) (by simp[jh];omega);exact wr rfl<|wg 1 rfl<|wo rfl ha<|wt rfl rfl
end
theorem p7(l:List Int):(jh l).length=l.length:=xm _
theorem IN{l pre ae:List Int}{a:Int}(h:l=pre++a::ae):(jh l)[pre.length]? =some [.int .i64 a]:=bR (f:=fun x=>[D.int .i64 x]) h
theorem o4{k:xO}{c:Nat}{a b:Int}:aN (.bin .neq c) [.int k a,.int k b]=some (.bool (decide (a≠b))):=ew
section
variable{X:Nat→List D→Option (List D)}
theorem bs4(x y:Ky):Rn F X 122 0 (x.dd++y.dd) (·=[.bool (decide (KL x y))]):=by
 refine wr rfl ?_;have fin:∀{env:List D} {u v:xM} {a b:Nat} {k:xO},aW (bT (lk env)) [u,v]=some [.int k (a:Nat),.int k (b:Nat)]→(KL x y↔a<b)→Wp F X 122 (.br (.bin .lss 0) [u,v] (.ret [] [.bool true] [.bool true]) (.ret [] [.bool false] [.bool false])) env (·=[.bool (decide (KL x y))]):=fun h1 h2=>
  Wp.aQ h1 af (fun h=>wt rfl (by rw[decide_eq_true (h2.2 (by omega))])) (fun h=>wt rfl (by rw[decide_eq_false (fun e=>h (by have:=h2.1 e;omega))]))
 refine Wp.aQ rfl o4 (fun h=>fin rfl (by unfold KL;omega)) (fun h0=> ?_);refine Wp.aQ rfl o4 (fun h=>fin rfl (by unfold KL;omega)) (fun h1=> ?_);refine Wp.aQ rfl o4 (fun h=>fin rfl (by unfold KL;omega)) (fun h2=> ?_);exact fin rfl (by unfold KL;omega)
theorem be0{a b:List Int}(ha:a.length≤1000)(hb:b.length≤1000):Rn F X 129 0 [.sl (jh a),.sl (jh b)] (·=[.bool (decide (a=b))]):=by
 have loop:a.length=b.length→∀(s1 s2 pre:List Int),a=pre++s1→b=pre++s2→Rn F X 129 1 [.sl (jh a),.sl (jh b),jD a.length,jD pre.length] (·=[.bool (decide (a=b))]):=by
  intro hl s1
  induction s1 with
  |nil=>
   intro s2 pre h1 h2;rw[xj] at h1;have e2:s2=[]:=xA (by have:=congrArg List.length h2;rw[xa] at this;rw[h1] at hl;omega);subst e2;rw[xj] at h2;have hp:pre.length=a.length:=by rw[h1]
   have he:a=b:=by rw[h1,h2]
   rw[decide_eq_true he];exact wr rfl<|wn rfl af<|wt rfl rfl
  |cons x s1 ih=>
   intro s2 pre h1 h2;have aF:=bj h1;obtain⟨y,T6,rfl⟩:∃y r,s2=y::r:=by
    cases s2 with
    |nil=>have:=congrArg List.length h2;rw[xa] at this;simp at this;omega
    |cons y r=>exact⟨y,r,rfl⟩
   have g1:=IN h1;have g2:=IN h2;by_cases uo:x=y
   ·subst uo;have next:=ih T6 (pre++[x]) (by rw[h1,aV]) (by rw[h2,aV]);rw[xa,show[x].length=1 from rfl] at next;exact wr rfl<|wy rfl af<|wo rfl (aA g1 rfl)<|wg 1 rfl<|wo rfl (aA g2 rfl)<|wg 1 rfl<|w8<|Wp.cN rfl o4 (by simp)<|wo rfl oA<|wj next
   ·have he:a≠b:=fun e=>by
     rw[h1,h2] at e;have:=List.append_cancel_left e;injection this with e1 _;exact uo e1
    rw[decide_eq_false he];exact wr rfl<|wy rfl af<|wo rfl (aA g1 rfl)<|wg 1 rfl<|wo rfl (aA g2 rfl)<|wg 1 rfl<|w8<|Wp.dB rfl o4 uo<|wt rfl rfl
 by_cases hl:a.length=b.length
 ·have g:=loop hl a b [] rfl rfl;exact wr rfl<|wo rfl (az (n:=a.length) (p7 _))<|wo rfl (az (n:=b.length) (p7 _))<|wn rfl o4<|wo rfl (az (n:=a.length) (p7 _))<|wj g
 ·have he:a≠b:=fun e=>hl (by rw[e])
  rw[decide_eq_false he];exact wr rfl<|wo rfl (az (n:=a.length) (p7 _))<|wo rfl (az (n:=b.length) (p7 _))<|wy rfl o4<|wt rfl rfl
theorem Ch.W3{c e:Ch}:c=e↔c.key=e.key∧c.tick=e.tick∧c.d=e.d∧c.args=e.args:=by cases c;cases e;simp
theorem bq5{c e:Ch}(hc:c.args.length≤1000)(he:e.args.length≤1000):Rn F X 130 0 (c.dd++e.dd) (·=[.bool (decide (c=e))]):=by
 have Hu:=be0 (X:=X) hc he;refine wr rfl ?_;have no: ¬c=e→∀env:List D,Wp F X 130 (.ret [] [.bool false] [.bool false]) env (·=[.bool (decide (c=e))]):=fun h env=>wt rfl (by rw[decide_eq_false h])
 refine Wp.br rfl (Fo (x:=c.key) (y:=e.key) (neg:=false)) (fun h0=> ?_) (fun h0=>no (fun q=>by rw[q] at h0;simp at h0) _);have h0:c.key=e.key:=by simpa using h0
 refine Wp.aQ rfl au (fun h1=> ?_) (fun h1=>no (fun q=>h1 (by rw[q])) _);refine Wp.aQ rfl au (fun h2=> ?_) (fun h2=>no (fun q=>h2 (by rw[q])) _);refine wg 1 rfl ?_;by_cases h3:c.args=e.args
 ·rw[decide_eq_true h3] at Hu;exact Wp.AD rfl Hu rfl (wt rfl (by rw[decide_eq_true (Ch.W3.2 ⟨h0,by omega,by omega,h3⟩)]))
 ·rw[decide_eq_false h3] at Hu;exact Wp.LH rfl Hu rfl<|Wp.AD rfl Hu rfl (wt rfl (by rw[decide_eq_false (fun q=>h3 (by rw[q]))]))
theorem O2{c e:Ch}(hc:c.args.length≤1000)(he:e.args.length≤1000):Rn F X 143 0 (c.dd++e.dd) (·=[.bool (decide (c=e))]):=by
 have no: ¬c=e→∀env:List D,Wp F X 143 (.ret [] [.bool false] [.bool false]) env (·=[.bool (decide (c=e))]):=fun h env=>wt rfl (by rw[decide_eq_false h])
 have loop:c.key=e.key→c.tick=e.tick→c.d=e.d→c.args.length=e.args.length→∀(s1 s2 pre:List Int),c.args=pre++s1→e.args=pre++s2→Rn F X 143 1 ([jD c.args.length,jD pre.length]++(c.dd++e.dd)) (·=[.bool (decide (c=e))]):=by
  intro k1 k2 k3 hl s1
  induction s1 with
  |nil=>
   intro s2 pre h1 h2;rw[xj] at h1;have e2:s2=[]:=xA (by have:=congrArg List.length h2;rw[xa] at this;rw[h1] at hl;omega);subst e2;rw[xj] at h2;have hp:pre.length=c.args.length:=by rw[h1]
   have U0:c=e:=Ch.W3.2 ⟨k1,k2,k3,by rw[h1,h2]⟩;rw[decide_eq_true U0];exact wr rfl<|lG<|wn rfl af<|wt rfl rfl
  |cons x s1 ih=>
   intro s2 pre h1 h2;have aF:=bj h1;obtain⟨y,T6,rfl⟩:∃y r,s2=y::r:=by
    cases s2 with
    |nil=>have:=congrArg List.length h2;rw[xa] at this;simp at this;omega
    |cons y r=>exact⟨y,r,rfl⟩
   have g1:=IN h1;have g2:=IN h2;by_cases uo:x=y
   ·subst uo;have next:=ih T6 (pre++[x]) (by rw[h1,aV]) (by rw[h2,aV]);rw[xa,show[x].length=1 from rfl] at next;exact wr rfl<|lG<|wy rfl af<|wo rfl (aA g1 rfl)<|wg 1 rfl<|wo rfl (aA g2 rfl)<|wg 1 rfl<|jo<|Wp.cN rfl o4 (by simp)<|wo rfl oA<|wj next
   ·have U0: ¬c=e:=fun q=>by
     have q2:=congrArg Ch.args q;rw[h1,h2] at q2;have:=List.append_cancel_left q2;injection this with e1 _;exact uo e1
    rw[decide_eq_false U0];exact wr rfl<|lG<|wy rfl af<|wo rfl (aA g1 rfl)<|wg 1 rfl<|wo rfl (aA g2 rfl)<|wg 1 rfl<|jo<|Wp.dB rfl o4 uo<|wt rfl rfl
 refine wr rfl<|Wp.br rfl (Fo (x:=c.key) (y:=e.key) (neg:=true)) (fun h0=>no (fun q=>by rw[q] at h0;simp at h0) _) (fun h0=> ?_);have h0:c.key=e.key:=by simpa using h0
 refine Wp.aQ rfl o4 (fun h1=>no (fun q=>h1 (by rw[q])) _) (fun h1=> ?_);refine Wp.aQ rfl o4 (fun h2=>no (fun q=>h2 (by rw[q])) _) (fun h2=> ?_);refine wo rfl (az (n:=c.args.length) (p7 _))<|wo rfl (az (n:=e.args.length) (p7 _))<|Wp.aQ rfl o4 (fun h3=>no (fun q=>h3 (by rw[q])) _) (fun h3=> ?_);exact wo rfl (az (n:=c.args.length) (p7 _))<|Wp.jump rfl (loop h0 (by omega) (by omega) (by omega) c.args e.args [] rfl rfl)
end
end Go.Proofs.YtnjdjocokegphaaGreatDoor
