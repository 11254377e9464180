/- What these functions answer. -/
import Derived.Test.YtaginlnifpbfgaaGreatDoorP1
set_option linter.unusedVariables false
set_option linter.unusedSimpArgs false
set_option maxHeartbeats 4000000
set_option maxRecDepth 100000
namespace Go.Fl
open Go.Ex
structure vF where
 flags:UInt8
 links:List UInt8
 parts:List Pt
def vF.d(p:vF):List D:=[bD p.flags.toNat,.sl (bX p.links),.sl (p.parts.map Pt.d)]
structure hR (flags:Nat) (ar:List (List Nat)) (i:Nat) (c:Cm):Prop where
 name:c.name=[(97+i).toUInt8]
 rest:∃ints tables al,1≤ints∧ints≤3∧tables≤1∧ar[i]? =some al∧
  c.vars=(List.range ints).map (fun k=>(⟨nm 120 k,1,k⟩:Vr))++(⟨nm 98 0,2,0⟩:Vr)::(List.range tables).map (fun k=>(⟨nm 116 k,3,0⟩:Vr))∧
  1≤c.bx.length∧c.bx.length≤2∧(∃l∈c.bx,l.length=al.length)∧
  ∀l∈c.bx,1≤l.length∧l.length≤al.length∧∀k h,l[k]? =some h→sQ ints tables flags i ar al k h
structure iC (ar:List (List Nat)) (f:bq):Prop where
 name:f.name=[102,108,101,101,116,49]
 flags:f.flags.length≤2∧∀k x,f.flags[k]? =some x→x.name=nm 102 k
 links:∃ks:List (Nat×Nat),f.links=ks.map (fun p=>(⟨[(97+p.1/ar.length).toUInt8],[(97+p.1%ar.length).toUInt8],p.2⟩:Lk))∧ks.Pairwise (fun p q=>p.1<q.1)∧∀p∈ks,p.1<ar.length*ar.length∧1≤p.2∧p.2≤3
 n:f.comps.length=ar.length∧1≤ar.length∧ar.length≤3
 v8:∀l∈ar,1≤l.length∧l.length≤3∧∀n∈l,n≤2
 comps:∀i c,f.comps[i]? =some c→hR f.flags.length ar i c
end Go.Fl
namespace Go.Proofs.YtaginlnifpbfgaaGreatDoor
open Go.Ex Go.RowKit Go.Fl
theorem bn0{a b c:Nat}:aU (.bin .shr c) [.int .u8 (a:Nat),jD b]=some (.int .u8 ((a/2^min b 8:Nat):Int)):=by
 show ofInt (bs (iH (b:Int) 0) none (some (.int .u8 (Int.fdiv a (.ofNat (Nat.pow 2 (Nat.min (Int.toNat (b:Int)) 8)))))))=_;rw[qa,decide_eq_false (by omega)];show some (D.int .u8 (Int.fdiv (a:Int) ((2^min b 8:Nat):Int)))=_;rw[←Int.ofNat_fdiv]
theorem KW{k n:Nat}(h:k<n)(hn:n≤3):aU (.fT 1 0 1 false) [jD k,.str [97],.str [98],.str [99]]=some (.str [(97+k).toUInt8]):=HU (by omega)
section
variable{X:Nat→List D→Option (List D)}{ar:List (List Nat)}{parts:List Pt}{flags:List Fg}{links:List Lk}{Q:List D→Prop}{comps:List Cm}{i len:Nat}{p:Pt}
def tM(k:Nat):List Vr:=(List.range k).map (fun k=>(⟨nm 120 k,1,k⟩:Vr))
def bY(n k:Nat):List Vr:=tM n++(⟨nm 98 0,2,0⟩:Vr)::(List.range k).map (fun k=>(⟨nm 116 k,3,0⟩:Vr))
theorem Wi(k:Nat):(tM k).map Vr.r++[[.str (nm 120 k),iD 1,iD k]]=(tM (k+1)).map Vr.r:=by simp[tM,List.range_succ,Vr.r]
theorem Wk(n:Nat):(tM n).map Vr.r++[[.str (nm 98 0),iD 2,iD 0]]=(bY n 0).map Vr.r:=by simp[bY,Vr.r]
theorem Wj(n k:Nat):(bY n k).map Vr.r++[[.str (nm 116 k),iD 3,iD 0]]=(bY n (k+1)).map Vr.r:=by simp[bY,List.range_succ,Vr.r]
theorem Vg(k:Nat):((tM k).map Vr.r).length=k:=by simp[tM]
theorem Vh(n k:Nat):((bY n k).map Vr.r).length=n+1+k:=by simp[bY,tM];omega
theorem FY(l:List Cd)(k:Nat):(l.map Cd.d).take k=(l.take k).map Cd.d:=by rw[List.map_take]
theorem AV(comps:List Cm)(c:Cm):comps.map Cm.r++[Cm.r c]=(comps++[c]).map Cm.r:=by simp
abbrev cD(ar:List (List Nat))(i:Nat)(parts:List Pt)(len:Nat)(QB:List (List D))(nl k:Nat)(flags:List Fg)(links:List Lk)(comps:List Cm)(p:Pt)(vars:List Vr):List D:=
 [.sl (dO ar),jD i,.sl (parts.map Pt.d),jD len,.sl QB,jD nl,jD k,.sl (flags.map Fg.d),.sl (links.map Lk.d),.sl (comps.map Cm.r),bD p.ints.toNat,bD p.tables.toNat,.sl (p.hs.map Cd.d),.sl (p.second.map Cd.d),.str [(97+i).toUInt8],.sl (vars.map Vr.r)]
abbrev eD(ar:List (List Nat))(parts:List Pt)(len i:Nat)(flags:List Fg)(links:List Lk)(comps:List Cm):List D:=
 [.sl (dO ar),.sl (parts.map Pt.d),jD len,jD i,.sl (flags.map Fg.d),.sl (links.map Lk.d),.sl (comps.map Cm.r)]
theorem Jt{α:Type}{l:List α}{a:α}{i:Nat}{R:Nat→α→Prop}(hi:l.length=i)(h:∀i c,l[i]? =some c→R i c)(ha:R i a):∀i c,(l++[a])[i]? =some c→R i c:=by
 intro k c hk;rcases Nat.lt_or_ge k l.length with bg|ek
 ·rw[xw bg] at hk;exact h k c hk
 ·rw[xq ek] at hk;have h0:k - l.length=0:=by
   rcases xI (k - l.length) with h|h
   ·exact h
   ·rw[List.getElem?_eq_none (by simp;omega)] at hk;cases hk
  rw[h0] at hk;cases hk;obtain rfl:k=i:=by omega
  exact ha
theorem hR.one{nf i ints tables:Nat}{ar:List (List Nat)}{al:List Nat}{ej:List Hn}(i1:1≤ints)(i3:ints≤3)(t1:tables≤1)(bt:ar[i]? =some al)(eP:∀k h,ej[k]? =some h→sQ ints tables nf i ar al k h)(h1:ej.length=al.length)(h2:1≤ej.length):
 hR nf ar i ⟨[(97+i).toUInt8],bY ints tables,[ej]⟩:=
 ⟨rfl,ints,tables,al,i1,i3,t1,bt,rfl,xk 1,by show 1≤2;omega,⟨ej,List.mem_singleton_self _,h1⟩,fun l hl=>by rw[xy] at hl;subst hl;exact⟨h2,Nat.le_of_eq h1,eP⟩⟩
theorem hR.two{nf i ints tables:Nat}{ar:List (List Nat)}{al:List Nat}{ej eK:List Hn}(i1:1≤ints)(i3:ints≤3)(t1:tables≤1)(bt:ar[i]? =some al)(eP:∀k h,ej[k]? =some h→sQ ints tables nf i ar al k h)(jP:∀k h,eK[k]? =some h→sQ ints tables nf i ar al k h)
 (h1:ej.length≤al.length) (h2:1≤ej.length) (h3:eK.length≤al.length) (h4:1≤eK.length) (h5:ej.length=al.length∨eK.length=al.length):hR nf ar i ⟨[(97+i).toUInt8],bY ints tables,[ej,eK]⟩:=
 ⟨rfl,ints,tables,al,i1,i3,t1,bt,rfl,by show 1≤2;omega,xk 2,by
  rcases h5 with h|h
  ·exact⟨ej,by simp,h⟩
  ·exact⟨eK,by simp,h⟩,fun l hl=>by
  rcases xG.1 hl with rfl|hl
  ·exact⟨h2,h1,eP⟩
  ·rw[xy] at hl;subst hl;exact⟨h4,h3,jP⟩⟩
theorem aA{rows:List (List D)}{n:Nat}(h:rows.length=n):aU .nT [.sl rows]=some (jD n):=by rw[←h];rfl
theorem b9(bE:(flags.map Fg.d).length≤2)(hi:i<(dO ar).length)(gm:(dO ar).length≤3)(vX:comps.length=i)(cP:∀l∈ar,1≤l.length∧l.length≤3∧∀n∈l,n≤2){al:List Nat}(bt:ar[i]? =some al)(aC:al.length=min 3 (max 1 (max p.hs.length p.second.length)))
 (H:∀c:Cm,hR (flags.map Fg.d).length ar i c→Rn F X 11 7 (eD ar parts len (i+1) flags links (comps++[c])) Q):
 ∀(f k:Nat),k+f=p.tables.toNat%2→Rn F X 11 9 (cD ar i parts len (kP 116 (p.tables.toNat%2)) (p.tables.toNat%2) k flags links comps p (bY (1+p.ints.toNat%3) k)) Q:=by
 have o9:=Vh (1+p.ints.toNat%3);intro f
 induction f with
 |zero=>
  intro k hk;have vW:(comps.map Cm.r).length=comps.length:=xm _;have hA:(p.hs.map Cd.d).length=p.hs.length:=xm _;have hB:(p.second.map Cd.d).length=p.second.length:=xm _;obtain rfl:k=p.tables.toNat%2:=by omega
  have t1:p.tables.toNat%2≤1:=by omega
  have i1:1≤1+p.ints.toNat%3:=by omega
  have i3:1+p.ints.toNat%3≤3:=by omega
  refine wr rfl<|wn rfl ak<|wo rfl (kz (b:=3) .u8 (by omega))<|wo rfl oC<|wo rfl (m4 (a:=1) (by omega))<|wo rfl (kz (b:=2) .u8 (by omega))<|lG<|wo rfl oC<|wo rfl bf<|wo rfl bf<|wl rfl (y1 _ 3) rfl<|yr<|wo rfl (m6 (by omega))<|wo rfl bf ?_;rw[FY];rcases xI p.hs.length with h0|h0
  ·have e1:(p.hs.take (min (p.hs.map Cd.d).length 3))=[]:=by rw[xE.1 h0];rfl
   rw[e1];refine wg 3 rfl<|wx rfl (yQ (cs:=[⟨1,[]⟩]) (bs:=[]) (params:=0) (left:=0) i1 i3 t1 bE hi gm cP bt (by show 1≤_;omega)) fun|_,⟨ej,params,bs,left,rfl,fq,eP⟩=>⟨rfl,?_⟩
   refine jL<|wg 3 rfl<|wo rfl bf ?_;have l1:ej.length=max 1 (min 3 p.hs.length):=by rw[fq];show 1=_;omega
   rcases xI p.second.length with g0|g0
   ·refine Wp.iG rfl c7 (by rw[hB];omega)<|wg 2 rfl<|mM<|wo rfl oP<|wo rfl oA ?_
    (have:=H ⟨[(97+i).toUInt8],bY (1+p.ints.toNat%3) (p.tables.toNat%2),[ej]⟩ (hR.one i1 i3 t1 bt eP (by omega) (by omega));unfold eD at this;rw[←AV] at this;exact Wp.jump rfl this)
   ·refine Wp.fR rfl c7 (by rw[hB];omega)<|wo rfl bf<|mM<|wl rfl (y1 _ 3) rfl<|wo rfl (m6 (by omega))<|wg 1 rfl ?_;rw[FY];refine wx rfl (yQ i1 i3 t1 bE hi gm cP bt (by rw[xz];omega)) fun|_,⟨eK,Pa,Uq,DS,rfl,bG,jP⟩=>⟨rfl,?_⟩
    refine wg 2 rfl<|vG<|wo rfl (gO rfl rfl (by simp) (by simp))<|wg 2 rfl<|wo rfl oP<|wo rfl oA ?_;dsimp only [dU,Ex.r,St.r,List.cons_append,List.nil_append,df,de,iT,kr,kq];refine Wp.jump rfl ?_;rw[xz] at bG;have:=H ⟨[(97+i).toUInt8],bY (1+p.ints.toNat%3) (p.tables.toNat%2),[ej,eK]⟩ (hR.two i1 i3 t1 bt eP jP (by omega) (by omega) (by omega) (by omega) (by omega));unfold eD at this;rw[←AV] at this;exact this
  ·refine Wp.iG rfl ay (by rw[xm,xz];omega)<|wg 1 rfl<|wx rfl (yQ (bs:=[]) (params:=0) (left:=0) i1 i3 t1 bE hi gm cP bt (by rw[xz];omega)) fun|_,⟨ej,params,bs,left,rfl,fq,eP⟩=>⟨rfl,?_⟩
   refine wg 2 rfl<|jL<|wg 1 rfl<|wo rfl bf ?_;rw[xz] at fq;have l1:ej.length=max 1 (min 3 p.hs.length):=by omega
   rcases xI p.second.length with g0|g0
   ·refine Wp.iG rfl c7 (by rw[hB];omega)<|wg 2 rfl<|wo rfl oP<|mM<|wo rfl oA ?_
    (have:=H ⟨[(97+i).toUInt8],bY (1+p.ints.toNat%3) (p.tables.toNat%2),[ej]⟩ (hR.one i1 i3 t1 bt eP (by omega) (by omega));unfold eD at this;rw[←AV] at this;exact Wp.jump rfl this)
   ·refine Wp.fR rfl c7 (by rw[hB];omega)<|wo rfl bf<|wl rfl (y1 _ 3) rfl<|mM<|wo rfl (m6 (by omega))<|wg 1 rfl ?_;rw[FY];refine wx rfl (yQ i1 i3 t1 bE hi gm cP bt (by rw[xz];omega)) fun|_,⟨eK,Pa,Uq,DS,rfl,bG,jP⟩=>⟨rfl,?_⟩
    refine wg 2 rfl<|wo rfl (gO rfl rfl (by simp) (by simp))<|vG<|wg 2 rfl<|wo rfl oP<|wo rfl oA<|Wp.jump rfl ?_;rw[xz] at bG;have:=H ⟨[(97+i).toUInt8],bY (1+p.ints.toNat%3) (p.tables.toNat%2),[ej,eK]⟩ (hR.two i1 i3 t1 bt eP jP (by omega) (by omega) (by omega) (by omega) (by omega));unfold eD at this;rw[←AV] at this;exact this
 |succ f ih=>
  intro k hk;refine wr rfl<|wy rfl ak<|wo rfl (aB (nH (by omega)) rfl)<|wg 3 rfl<|wo rfl (gO rfl rfl (by rw[o9];omega) (by rw[o9];omega))<|lG<|wo rfl oA ?_
  (have:=ih (k+1) (by omega);unfold cD at this;rw[←Wj] at this;exact Wp.jump rfl this)
theorem b8(H:Rn F X 11 9 (cD ar i parts len (kP 116 (p.tables.toNat%2)) (p.tables.toNat%2) 0 flags links comps p (bY (1+p.ints.toNat%3) 0)) Q):
 ∀(f k:Nat),k+f=1+p.ints.toNat%3→Rn F X 11 8 (cD ar i parts len (kP 120 (1+p.ints.toNat%3)) (1+p.ints.toNat%3) k flags links comps p (tM k)) Q:=by
 have hx:=Vg;intro f
 induction f with
 |zero=>
  intro k hk;obtain rfl:k=1+p.ints.toNat%3:=by omega
  have:=H;unfold cD at this;rw[←Wk] at this;exact wr rfl<|wn rfl ak<|wg 2 rfl<|wo rfl (gO rfl rfl (by rw[hx];omega) (by rw[hx];omega))<|wo rfl (kz (b:=2) .u8 (by omega))<|wo rfl oC<|lG<|wl rfl (l4 (c:=116) (n:=p.tables.toNat%2) (by omega) (by omega)) rfl<|wo rfl (aA (y7 _ _))<|wj this
 |succ f ih=>
  intro k hk;refine wr rfl<|wy rfl ak<|wo rfl (aB (nH (by omega)) rfl)<|wg 3 rfl<|wo rfl (gO rfl rfl (by rw[hx];omega) (by rw[hx];omega))<|lG<|wo rfl oA ?_
  (have:=ih (k+1) (by omega);unfold cD at this;rw[←Wi] at this;exact Wp.jump rfl this)
theorem b6(bE:(flags.map Fg.d).length≤2)(hi:i<(dO ar).length)(gm:(dO ar).length≤3)(vX:comps.length=i)(cP:∀l∈ar,1≤l.length∧l.length≤3∧∀n∈l,n≤2){al:List Nat}(bt:ar[i]? =some al)(aC:al.length=min 3 (max 1 (max p.hs.length p.second.length)))
 (H:∀c:Cm,hR (flags.map Fg.d).length ar i c→Rn F X 11 7 (eD ar parts len (i+1) flags links (comps++[c])) Q):
 ∀(f k:Nat),k+f=p.tables.toNat%2→Rn F X 11 6 (cD ar i parts len (kP 116 (p.tables.toNat%2)) (p.tables.toNat%2) k flags links comps p (bY (1+p.ints.toNat%3) k)) Q:=by
 have o9:=Vh (1+p.ints.toNat%3);intro f
 induction f with
 |zero=>
  intro k hk;have vW:(comps.map Cm.r).length=comps.length:=xm _;have hA:(p.hs.map Cd.d).length=p.hs.length:=xm _;have hB:(p.second.map Cd.d).length=p.second.length:=xm _;obtain rfl:k=p.tables.toNat%2:=by omega
  have t1:p.tables.toNat%2≤1:=by omega
  have i1:1≤1+p.ints.toNat%3:=by omega
  have i3:1+p.ints.toNat%3≤3:=by omega
  refine wr rfl<|wn rfl ak<|wo rfl (kz (b:=3) .u8 (by omega))<|wo rfl oC<|wo rfl (m4 (a:=1) (by omega))<|wo rfl (kz (b:=2) .u8 (by omega))<|lG<|wo rfl oC<|wo rfl bf<|wo rfl bf<|wl rfl (y1 _ 3) rfl<|yr<|wo rfl (m6 (by omega))<|wo rfl bf ?_;rw[FY];rcases xI p.hs.length with h0|h0
  ·have e1:(p.hs.take (min (p.hs.map Cd.d).length 3))=[]:=by rw[xE.1 h0];rfl
   rw[e1];refine wg 3 rfl<|wx rfl (yQ (cs:=[⟨1,[]⟩]) (bs:=[]) (params:=0) (left:=0) i1 i3 t1 bE hi gm cP bt (by show 1≤_;omega)) fun|_,⟨ej,params,bs,left,rfl,fq,eP⟩=>⟨rfl,?_⟩
   refine jL<|wg 3 rfl<|wo rfl bf ?_;have l1:ej.length=max 1 (min 3 p.hs.length):=by rw[fq];show 1=_;omega
   rcases xI p.second.length with g0|g0
   ·refine Wp.iG rfl c7 (by rw[hB];omega)<|wg 2 rfl<|mM<|wo rfl oP<|wo rfl oA ?_
    (have:=H ⟨[(97+i).toUInt8],bY (1+p.ints.toNat%3) (p.tables.toNat%2),[ej]⟩ (hR.one i1 i3 t1 bt eP (by omega) (by omega));unfold eD at this;rw[←AV] at this;exact Wp.jump rfl this)
   ·refine Wp.fR rfl c7 (by rw[hB];omega)<|wo rfl bf<|mM<|wl rfl (y1 _ 3) rfl<|wo rfl (m6 (by omega))<|wg 1 rfl ?_;rw[FY];refine wx rfl (yQ i1 i3 t1 bE hi gm cP bt (by rw[xz];omega)) fun|_,⟨eK,Pa,Uq,DS,rfl,bG,jP⟩=>⟨rfl,?_⟩
    refine wg 2 rfl<|vG<|wo rfl (gO rfl rfl (by simp) (by simp))<|wg 2 rfl<|wo rfl oP<|wo rfl oA ?_;dsimp only [dU,Ex.r,St.r,List.cons_append,List.nil_append,df,de,iT,kr,kq];refine Wp.jump rfl ?_;rw[xz] at bG;have:=H ⟨[(97+i).toUInt8],bY (1+p.ints.toNat%3) (p.tables.toNat%2),[ej,eK]⟩ (hR.two i1 i3 t1 bt eP jP (by omega) (by omega) (by omega) (by omega) (by omega));unfold eD at this;rw[←AV] at this;exact this
  ·refine Wp.iG rfl ay (by rw[xm,xz];omega)<|wg 1 rfl<|wx rfl (yQ (bs:=[]) (params:=0) (left:=0) i1 i3 t1 bE hi gm cP bt (by rw[xz];omega)) fun|_,⟨ej,params,bs,left,rfl,fq,eP⟩=>⟨rfl,?_⟩
   refine wg 2 rfl<|jL<|wg 1 rfl<|wo rfl bf ?_;rw[xz] at fq;have l1:ej.length=max 1 (min 3 p.hs.length):=by omega
   rcases xI p.second.length with g0|g0
   ·refine Wp.iG rfl c7 (by rw[hB];omega)<|wg 2 rfl<|wo rfl oP<|mM<|wo rfl oA ?_
    (have:=H ⟨[(97+i).toUInt8],bY (1+p.ints.toNat%3) (p.tables.toNat%2),[ej]⟩ (hR.one i1 i3 t1 bt eP (by omega) (by omega));unfold eD at this;rw[←AV] at this;exact Wp.jump rfl this)
   ·refine Wp.fR rfl c7 (by rw[hB];omega)<|wo rfl bf<|wl rfl (y1 _ 3) rfl<|mM<|wo rfl (m6 (by omega))<|wg 1 rfl ?_;rw[FY];refine wx rfl (yQ i1 i3 t1 bE hi gm cP bt (by rw[xz];omega)) fun|_,⟨eK,Pa,Uq,DS,rfl,bG,jP⟩=>⟨rfl,?_⟩
    refine wg 2 rfl<|wo rfl (gO rfl rfl (by simp) (by simp))<|vG<|wg 2 rfl<|wo rfl oP<|wo rfl oA<|Wp.jump rfl ?_;rw[xz] at bG;have:=H ⟨[(97+i).toUInt8],bY (1+p.ints.toNat%3) (p.tables.toNat%2),[ej,eK]⟩ (hR.two i1 i3 t1 bt eP jP (by omega) (by omega) (by omega) (by omega) (by omega));unfold eD at this;rw[←AV] at this;exact this
 |succ f ih=>
  intro k hk;refine wr rfl<|wy rfl ak<|wo rfl (aB (nH (by omega)) rfl)<|wg 3 rfl<|wo rfl (gO rfl rfl (by rw[o9];omega) (by rw[o9];omega))<|lG<|wo rfl oA ?_
  (have:=ih (k+1) (by omega);unfold cD at this;rw[←Wj] at this;exact Wp.jump rfl this)
theorem b5(H:Rn F X 11 6 (cD ar i parts len (kP 116 (p.tables.toNat%2)) (p.tables.toNat%2) 0 flags links comps p (bY (1+p.ints.toNat%3) 0)) Q):
 ∀(f k:Nat),k+f=1+p.ints.toNat%3→Rn F X 11 5 (cD ar i parts len (kP 120 (1+p.ints.toNat%3)) (1+p.ints.toNat%3) k flags links comps p (tM k)) Q:=by
 have hx:=Vg;intro f
 induction f with
 |zero=>
  intro k hk;obtain rfl:k=1+p.ints.toNat%3:=by omega
  have:=H;unfold cD at this;rw[←Wk] at this;exact wr rfl<|wn rfl ak<|wg 2 rfl<|wo rfl (gO rfl rfl (by rw[hx];omega) (by rw[hx];omega))<|wo rfl (kz (b:=2) .u8 (by omega))<|wo rfl oC<|lG<|wl rfl (l4 (c:=116) (n:=p.tables.toNat%2) (by omega) (by omega)) rfl<|wo rfl (aA (y7 _ _))<|wj this
 |succ f ih=>
  intro k hk;refine wr rfl<|wy rfl ak<|wo rfl (aB (nH (by omega)) rfl)<|wg 3 rfl<|wo rfl (gO rfl rfl (by rw[hx];omega) (by rw[hx];omega))<|lG<|wo rfl oA ?_
  (have:=ih (k+1) (by omega);unfold cD at this;rw[←Wi] at this;exact Wp.jump rfl this)
theorem bh7(bE:(flags.map Fg.d).length≤2)(hn:(parts.map Pt.d).length=(dO ar).length)(gm:(dO ar).length≤3)(vX:comps.length=i)(cP:∀l∈ar,1≤l.length∧l.length≤3∧∀n∈l,n≤2)
 (bt:∀(i:Nat) (p:Pt),parts[i]? =some p→∃al,ar[i]? =some al∧al.length=min 3 (max 1 (max p.hs.length p.second.length))) (hi:i<(parts.map Pt.d).length)
 (H:∀c:Cm,hR (flags.map Fg.d).length ar i c→Rn F X 11 7 (eD ar parts (parts.map Pt.d).length (i+1) flags links (comps++[c])) Q):Rn F X 11 7 (eD ar parts (parts.map Pt.d).length i flags links comps) Q:=by
 obtain⟨p,hp,ID⟩:=BU hi;obtain⟨al,ha,II⟩:=bt i p hp;have:=b8 (ar:=ar) (i:=i) (parts:=parts) (len:=(parts.map Pt.d).length) (flags:=flags) (links:=links) (comps:=comps) (p:=p) (Q:=Q) (b9 bE (by omega) gm vX cP ha II H (p.tables.toNat%2) 0 (by omega)) (1+p.ints.toNat%3) 0 (by omega);exact wr rfl<|wy rfl ak<|wo rfl (aB ID rfl)<|wg 1 rfl<|lH<|wy rfl (qK (n:=3))<|wo rfl (KW (n:=3) (by omega) (by omega))<|wo rfl (kz (b:=3) .u8 (by omega))<|wo rfl oC<|wo rfl (m4 (a:=1) (by omega))<|oY<|wl rfl (l4 (c:=120) (n:=1+p.ints.toNat%3) (by omega) (by omega)) rfl<|wo rfl (aA (y7 _ _))<|wj this
theorem bh8(bE:(flags.map Fg.d).length≤2)(hn:(parts.map Pt.d).length=(dO ar).length)(gm:(dO ar).length≤3)(vX:comps.length=i)(cP:∀l∈ar,1≤l.length∧l.length≤3∧∀n∈l,n≤2)
 (bt:∀(i:Nat) (p:Pt),parts[i]? =some p→∃al,ar[i]? =some al∧al.length=min 3 (max 1 (max p.hs.length p.second.length))) (hi:i<(parts.map Pt.d).length)
 (H:∀c:Cm,hR (flags.map Fg.d).length ar i c→Rn F X 11 7 (eD ar parts (parts.map Pt.d).length (i+1) flags links (comps++[c])) Q):Rn F X 11 4 (eD ar parts (parts.map Pt.d).length i flags links comps) Q:=by
 obtain⟨p,hp,ID⟩:=BU hi;obtain⟨al,ha,II⟩:=bt i p hp;have:=b5 (ar:=ar) (i:=i) (parts:=parts) (len:=(parts.map Pt.d).length) (flags:=flags) (links:=links) (comps:=comps) (p:=p) (Q:=Q) (b6 bE (by omega) gm vX cP ha II H (p.tables.toNat%2) 0 (by omega)) (1+p.ints.toNat%3) 0 (by omega);exact wr rfl<|wy rfl ak<|wo rfl (aB ID rfl)<|wg 1 rfl<|lH<|wy rfl (qK (n:=3))<|wo rfl (KW (n:=3) (by omega) (by omega))<|wo rfl (kz (b:=3) .u8 (by omega))<|wo rfl oC<|wo rfl (m4 (a:=1) (by omega))<|oY<|wl rfl (l4 (c:=120) (n:=1+p.ints.toNat%3) (by omega) (by omega)) rfl<|wo rfl (aA (y7 _ _))<|wj this
def aE8(flags:List Fg)(links:List Lk)(ar:List (List Nat))(o:List D):Prop:=∃cs:List Cm,o=[.str [102,108,101,101,116,49],.sl (flags.map Fg.d),.sl (links.map Lk.d),.sl (cs.map Cm.r)]∧cs.length=ar.length∧∀i c,cs[i]? =some c→hR flags.length ar i c
theorem b7(bE:(flags.map Fg.d).length≤2)(hn:(parts.map Pt.d).length=(dO ar).length)(gm:(dO ar).length≤3)(cP:∀l∈ar,1≤l.length∧l.length≤3∧∀n∈l,n≤2)
 (bt:∀(i:Nat) (p:Pt),parts[i]? =some p→∃al,ar[i]? =some al∧al.length=min 3 (max 1 (max p.hs.length p.second.length))):
 ∀(f i:Nat),i+f=(parts.map Pt.d).length→∀(comps:List Cm),comps.length=i→(∀i c,comps[i]? =some c→hR flags.length ar i c)→Rn F X 11 7 (eD ar parts (parts.map Pt.d).length i flags links comps) (aE8 flags links ar):=by
 intro f
 induction f with
 |zero=>
  intro i hi comps hc hk;exact wr rfl<|wn rfl ak<|wt rfl ⟨comps,rfl,by rw[←Bh];omega,hk⟩
 |succ f ih=>
  intro i hi comps hc hk;refine bh7 bE hn gm hc cP bt (by omega) (fun c ho=>ih (i+1) (by omega) (comps++[c]) (by simp;omega) (Jt hc hk ?_));rw[xm] at ho;exact ho
theorem b4(bE:(flags.map Fg.d).length≤2)(hn:(parts.map Pt.d).length=(dO ar).length)(gm:(dO ar).length≤3)(dk7:1≤(dO ar).length)(cP:∀l∈ar,1≤l.length∧l.length≤3∧∀n∈l,n≤2)
 (bt:∀(i:Nat) (p:Pt),parts[i]? =some p→∃al,ar[i]? =some al∧al.length=min 3 (max 1 (max p.hs.length p.second.length))):Rn F X 11 4 (eD ar parts (parts.map Pt.d).length 0 flags links []) (aE8 flags links ar):=
 bh8 bE hn gm rfl cP bt (by omega) (fun c ho=>b7 bE hn gm cP bt ((parts.map Pt.d).length - 1) 1 (by omega) [c] rfl (Jt (l:=[]) rfl (fun i c h=>by simp at h) (by rw[xm] at ho;exact ho)))
theorem ba8(ar:List (List Nat))(l:List Nat):dO ar++[[.sl (kO l)]]=dO (ar++[l]):=by simp[dO,kO]
def ac8(parts:List Pt)(ar:List (List Nat))(n:Nat):Prop:=ar.length=n∧(∀l∈ar,1≤l.length∧l.length≤3∧∀n∈l,n≤2)∧∀(i:Nat) (p:Pt),i<n→parts[i]? =some p→∃al,ar[i]? =some al∧al.length=min 3 (max 1 (max p.hs.length p.second.length))
theorem b3(bF:parts.length≤3)(H:∀ar,ac8 parts ar parts.length→Rn F X 11 4 (eD ar parts (parts.map Pt.d).length 0 flags links []) Q):∀(f i:Nat),i+f=parts.length→∀ar,ac8 parts ar i→Rn F X 11 3 [.sl (parts.map Pt.d),.sl (dO ar),jD (parts.map Pt.d).length,jD i,.sl (flags.map Fg.d),.sl (links.map Lk.d)] Q:=by
 have fV:(parts.map Pt.d).length=parts.length:=xm _;intro f
 induction f with
 |zero=>
  intro i hi ar ha;obtain rfl:i=parts.length:=by omega
  exact wr rfl<|wn rfl ak<|wo rfl bf<|wj (H ar ha)
 |succ f ih=>
  intro i hi ar ha;obtain⟨p,hp,ID⟩:=BU (f:=Pt.d) (l:=parts) (i:=i) (by omega);obtain⟨ny,Ny,Ue⟩:=ha;refine wr rfl<|wy rfl ak<|wo rfl (aB ID rfl)<|wg 1 rfl<|dh<|wg 1 rfl<|wx rfl (ba6 p) fun|_,⟨al,rfl,bt,jk⟩=>⟨rfl,?_⟩
  refine wg 2 rfl<|wo rfl (gO rfl rfl (by rw[Bh];omega) (by rw[Bh];omega))<|wo rfl oA<|dJ<|Wp.jump rfl ?_;have:=ih (i+1) (by omega) (ar++[al]) ⟨by rw[xa,ny];rfl,fun l h=>by
   rcases xF.1 h with h|h
   ·exact Ny l h
   ·rw[xy] at h;subst h;exact⟨by omega,by omega,jk⟩,fun j q hj hq=>by
   rcases Nat.lt_or_ge j i with bg|ek
   ·obtain⟨NM,h1,h2⟩:=Ue j q bg hq;exact⟨NM,by rw[xw (by omega)];exact h1,h2⟩
   ·obtain rfl:j=i:=by omega
    rw[hp] at hq;cases hq;exact⟨al,by rw[xq (by omega),ny,Nat.sub_self];rfl,bt⟩⟩
  rw[←ba8] at this;exact this
def Ax(n:Nat)(ks:List (Nat×Nat)):List Lk:=ks.map (fun p=>(⟨[(97+p.1/n).toUInt8],[(97+p.1%n).toUInt8],p.2⟩:Lk))
theorem cF9(n k t:Nat)(ks:List (Nat×Nat)):(Ax n ks).map Lk.d++[[.str [(97+k/n).toUInt8],.str [(97+k%n).toUInt8],iD t]]=(Ax n (ks++[(k,t)])).map Lk.d:=by simp[Ax,Lk.d]
def xY(n k:Nat)(ks:List (Nat×Nat)):Prop:=ks.length≤k∧ks.Pairwise (fun p q=>p.1<q.1)∧∀p∈ks,p.1<k∧p.1<n*n∧1≤p.2∧p.2≤3
theorem xY.mono{n k:Nat}{ks:List (Nat×Nat)}(h:xY n k ks):xY n (k+1) ks:=⟨by have:=h.1;omega,h.2.1,fun p hp=>by have:=h.2.2 p hp;exact⟨by omega,this.2⟩⟩
theorem xY.snoc{n k t:Nat}{ks:List (Nat×Nat)}(h:xY n k ks)(hk:k<n*n)(h1:1≤t)(h3:t≤3):xY n (k+1) (ks++[(k,t)]):=
 ⟨by have:=h.1;rw[xa];show ks.length+1≤_;omega,List.pairwise_append.2 ⟨h.2.1,List.pairwise_singleton _ _,fun a ha b hb=>by rw[xy] at hb;subst hb;exact(h.2.2 a ha).1⟩,fun p hp=>by
  rcases xF.1 hp with hp|hp
  ·have:=h.2.2 p hp;exact⟨by omega,this.2⟩
  ·rw[xy] at hp;subst hp;exact⟨by show k<k+1;omega,hk,h1,h3⟩⟩
theorem ba1{L:List UInt8}{k:Nat}(h:k<(bX L).length):∃b:UInt8,(bX L)[k]? =some [bD b.toNat]:=(BU h).imp fun _ h=>h.2
theorem b2{n:Nat}{L:List UInt8}{fl:Nat}{C:List Pt}(Cz:1≤n)(yC:n≤3)(hn:(parts.map Pt.d).length=n)
 (H:∀ks,xY n (n*n) ks→Rn F X 11 3 [.sl (parts.map Pt.d),.sl (dO []),jD (parts.map Pt.d).length,jD 0,.sl (flags.map Fg.d),.sl ((Ax n ks).map Lk.d)] Q):
 ∀(f k:Nat),k+f=n*n→∀ks,xY n k ks→Rn F X 11 2 [jD n,.sl (parts.map Pt.d),jD k,bD fl,.sl (bX L),.sl (C.map Pt.d),.sl (flags.map Fg.d),.sl ((Ax n ks).map Lk.d)] Q:=by
 have hn9:n*n≤9:=Nat.mul_le_mul yC yC;have IF:∀ks,((Ax n ks).map Lk.d).length=ks.length:=fun ks=>by simp[Ax]
 intro f
 induction f with
 |zero=>
  intro k hk ks gZ;obtain rfl:k=n*n:=by omega
  refine wr rfl<|wo rfl bf<|Wp.bh rfl ak (fun h=> ?_) (fun h=> ?_)
  ·exact wo rfl (Xs (by omega))<|wn rfl ak<|wo rfl bf<|wj (H ks gZ)
  ·exact wo rfl bf<|wj (H ks gZ)
 |succ f ih=>
  intro k hk ks gZ;have hd:k/n<n:=Nat.div_lt_of_lt_mul (by omega);have hm:k%n<n:=Nat.mod_lt _ Cz;have hkl:=gZ.1;have up:xY n (n*n) ks:=⟨by omega,gZ.2.1,fun p hp=>by have:=gZ.2.2 p hp;exact⟨by omega,this.2⟩⟩;refine wr rfl<|wo rfl bf<|Wp.bh rfl ak (fun h=> ?_) (fun h=> ?_)
  ·refine wo rfl (Xs (by omega))<|wy rfl ak ?_
   (obtain⟨b,FK⟩:=ba1 (k:=k) (L:=L) (by omega);refine Wp.op rfl (aB FK rfl) rfl ?_)
   refine wg 1 rfl<|lH<|wo rfl (kz (b:=4) .u8 (by omega))<|Wp.bh rfl c7 (fun h=> ?_) (fun h=> ?_)
   ·refine wo rfl (bn1 Cz (by omega))<|wy rfl (qK (n:=3))<|wo rfl (KW (n:=n) (by omega) (by omega))<|wo rfl (kz (b:=n) .i64 Cz)<|oY<|wy rfl (qK (n:=3))<|wo rfl (KW (n:=n) (by omega) (by omega))<|wo rfl (aB FK rfl)<|wg 1 rfl<|wo rfl (kz (b:=4) .u8 (by omega))<|lG<|wo rfl oC<|wg 2 rfl<|wo rfl (gO rfl rfl (by rw[IF];omega) (by rw[IF];omega))<|wo rfl oA<|yr ?_
    (have:=ih (k+1) (by omega) (ks++[(k,b.toNat%4)]) (gZ.snoc (by omega) (by omega) (by omega));rw[←cF9] at this;exact Wp.jump rfl this)
   ·exact wo rfl oA<|Wp.jump rfl (ih (k+1) (by omega) ks gZ.mono)
  ·exact wo rfl bf<|wj (H ks up)
theorem av9(flags:List Fg)(n:aH)(b:Bool):flags.map Fg.d++[[.str n,.bool b]]=(flags++[(⟨n,b⟩:Fg)]).map Fg.d:=by simp[Fg.d]
theorem b1{n:Nat}{L:List UInt8}{fl:Nat}{C:List Pt}(IN:fl%3≤2)
 (H:∀flags:List Fg,flags.length=fl%3→(∀k x,flags[k]? =some x→x.name=nm 102 k)→Rn F X 11 2 [jD n,.sl (parts.map Pt.d),jD 0,bD fl,.sl (bX L),.sl (C.map Pt.d),.sl (flags.map Fg.d),.sl []] Q):
 ∀(f k:Nat),k+f=fl%3→∀flags:List Fg,flags.length=k→(∀k x,flags[k]? =some x→x.name=nm 102 k)→Rn F X 11 1 [jD n,.sl (parts.map Pt.d),.sl (kP 102 (fl%3)),jD (fl%3),jD k,bD fl,.sl (bX L),.sl (C.map Pt.d),.sl (flags.map Fg.d)] Q:=by
 intro f
 induction f with
 |zero=>
  intro k hk flags hl hx;exact wr rfl<|wn rfl ak<|Wp.jump rfl (H flags (by omega) hx)
 |succ f ih=>
  intro k hk flags hl hx;have T6:(flags.map Fg.d).length=flags.length:=xm _;refine wr rfl<|wy rfl ak<|wo rfl (aB (nH (by omega)) rfl)<|wg 1 rfl<|wo rfl (m4 (a:=4) (by omega))<|wo rfl bn0<|mN<|wo rfl (kz (b:=2) .u8 (by omega))<|Wp.bh rfl ay (fun h=> ?_) (fun h=> ?_)
  ·refine wg 2 rfl<|wo rfl oP<|wo rfl oA<|gu ?_
   (have:=ih (k+1) (by omega) (flags++[⟨nm 102 k,true⟩]) (by simp;omega) (Jt hl hx rfl);rw[←av9] at this;exact Wp.jump rfl this)
  ·refine wg 2 rfl<|wo rfl oP<|wo rfl oA<|gu ?_
   (have:=ih (k+1) (by omega) (flags++[⟨nm 102 k,false⟩]) (by simp;omega) (Jt hl hx rfl);rw[←av9] at this;exact Wp.jump rfl this)
theorem ptT(l:List Pt)(k:Nat):(l.map Pt.d).take k=(l.take k).map Pt.d:=by rw[List.map_take]
def XU(o:List D):Prop:=∃f ar,o=bq.r f∧iC ar f
theorem Vc{n:Nat}{L:List UInt8}{fl:Nat}{C:List Pt}(Cz:1≤n)(yC:n≤3)(hn:parts.length=n):Rn F X 11 1 [jD n,.sl (parts.map Pt.d),.sl (kP 102 (fl%3)),jD (fl%3),jD 0,bD fl,.sl (bX L),.sl (C.map Pt.d),.sl []] XU:=by
 have fV:(parts.map Pt.d).length=parts.length:=xm _;refine b1 (by omega) (fun flags hf hx=> ?_) (fl%3) 0 (by omega) [] rfl (fun k x h=>by simp at h);have T6:(flags.map Fg.d).length=flags.length:=xm _;refine b2 Cz yC (by omega) (fun ks gZ=> ?_) (n*n) 0 (by omega) [] ⟨xL _,.nil,fun p h=>by cases h⟩;refine b3 (by omega) (fun ar ha=> ?_) parts.length 0 (by omega) [] ⟨rfl,fun l h=>(by cases h),fun i p h=>by omega⟩;have bt:ar.length=n:=by rw[ha.1,hn]
 refine(b4 (by omega) (by rw[Bh,bt];omega) (by rw[Bh];omega) (by rw[Bh];omega) ha.2.1 (fun i p h=>ha.2.2 i p (xe.1 h).1 h)).mono ?_;rintro _ ⟨cs,rfl,hl,hc⟩;refine⟨⟨[102,108,101,101,116,49],flags,Ax n ks,cs⟩,ar,rfl,rfl,⟨by show flags.length≤2;omega,hx⟩,⟨ks,by rw[bt];rfl,gZ.2.1,fun p hp=>by rw[bt];have:=gZ.2.2 p hp;exact⟨this.2.1,this.2.2⟩⟩,⟨hl,by omega,by omega⟩,ha.2.1,hc⟩
theorem OW(p:vF):Rn F X 11 0 p.d XU:=by
 obtain⟨fl,L,C⟩:=p;have hC:(C.map Pt.d).length=C.length:=xm _;refine wr rfl<|wo rfl bf<|wl rfl (y1 _ 3) rfl<|wo rfl (m6 (by omega))<|Wp.bh rfl ay (fun h=> ?_) (fun h=> ?_)
 ·exact wo rfl (kz (b:=3) .u8 (by omega))<|w7<|wo rfl oC<|wl rfl (l4 (c:=102) (n:=fl.toNat%3) (by omega) (by omega)) rfl<|wo rfl (aA (y7 _ _))<|wg 1 rfl<|dh<|Wp.jump rfl (Vc (parts:=[⟨0,0,[],[]⟩]) (n:=1) (by omega) (by omega) rfl)
 ·refine wo rfl (kz (b:=3) .u8 (by omega))<|w7<|wo rfl oC<|wl rfl (l4 (c:=102) (n:=fl.toNat%3) (by omega) (by omega)) rfl<|wo rfl (aA (y7 _ _)) ?_
  (dsimp only at h;have:=Vc (X:=X) (parts:=C.take (min (C.map Pt.d).length 3)) (n:=min (C.map Pt.d).length 3) (L:=L) (fl:=fl.toNat) (C:=C) (by omega) (by omega) (by rw[xz];omega);rw[←ptT] at this;exact Wp.jump rfl this)
end
end Go.Proofs.YtaginlnifpbfgaaGreatDoor
namespace Go.Fl
open Go.Ex
inductive kN (P:Ex→Prop):Ex→Prop
 |mk {op:Nat} {name:aH} {n:Nat} {args:List Ex} (h:P ⟨op,name,n,args⟩) (ha:∀a∈args,kN P a):kN P ⟨op,name,n,args⟩
def GN:List aH:=[[102,108,101,101,116,49],nm 102 0,nm 102 1,[97],[98],[99],nm 120 0,nm 120 1,nm 120 2,nm 98 0,nm 116 0,nm 104 0,nm 104 1,nm 104 2,nm 112 0,nm 112 1]
def ku(op:Nat):Nat:=if op=6∨op=7∨op=9∨op=10 then 1 else if 11≤op then 2 else 0
structure jb (e:Ex):Prop where
 op:∃op name n args,e=⟨op,name,n,args⟩∧1≤op∧op≤23∧args.length=ku op∧(op=1∧n≤8∨op≠1∧n=0)∧(5≤op∧op≤8∧name∈GN∨(op<5∨8<op)∧name=[])
theorem jb.of{op:Nat}{name:aH}{n:Nat}{args:List Ex}(h1:1≤op)(h2:op≤23)(h3:args.length=ku op)(h4:op=1∧n≤8∨op≠1∧n=0)(h5:5≤op∧op≤8∧name∈GN∨(op<5∨8<op)∧name=[]):jb ⟨op,name,n,args⟩:=⟨op,name,n,args,rfl,h1,h2,h3,h4,h5⟩
theorem jb.get{op:Nat}{name:aH}{n:Nat}{args:List Ex}(h:jb ⟨op,name,n,args⟩):1≤op∧op≤23∧args.length=ku op∧(op=1∧n≤8∨op≠1∧n=0)∧(5≤op∧op≤8∧name∈GN∨(op<5∨8<op)∧name=[]):=by
 obtain⟨_,_,_,_,e,h⟩:=h;cases e;exact h
theorem Mh{k:Nat}(h:k<3):nm 120 k∈GN:=by
 have:k=0∨k=1∨k=2:=by omega
 rcases this with rfl|rfl|rfl<;>decide
theorem SS{k:Nat}(h:k<3):nm 104 k∈GN:=by
 have:k=0∨k=1∨k=2:=by omega
 rcases this with rfl|rfl|rfl<;>decide
theorem Mi{k:Nat}(h:k<3):[(97+k).toUInt8]∈GN:=by
 have:k=0∨k=1∨k=2:=by omega
 rcases this with rfl|rfl|rfl<;>decide
theorem av7{k:Nat}(h:k<2):nm 102 k∈GN:=by
 have:k=0∨k=1:=by omega
 rcases this with rfl|rfl<;>decide
theorem av6{k:Nat}(h:k<2):nm 112 k∈GN:=by
 have:k=0∨k=1:=by omega
 rcases this with rfl|rfl<;>decide
theorem EV:nm 116 0∈GN:=by decide
theorem SU:nm 98 0∈GN:=by decide
structure Sc.Ok (c:Sc):Prop where
 i:c.ints≤3
 t:c.tables≤1
 f:c.flags≤2
 p:c.params≤2
theorem fc.all{c:Sc}(hc:c.Ok){d:Nat}{e:Ex}(h:fc c d e):kN jb e:=by
 have h1:=hc.i;have h2:=hc.p
 induction h with
 |num n h=>exact .mk (.of (by omega) (by omega) rfl (.inl ⟨rfl,h⟩) (.inr ⟨by omega,rfl⟩)) (fun a h=>by cases h)
 |var k h=>exact .mk (.of (by omega) (by omega) rfl (.inr ⟨by omega,rfl⟩) (.inl ⟨by omega,by omega,Mh (by omega)⟩)) (fun a h=>by cases h)
 |mO k h=>exact .mk (.of (by omega) (by omega) rfl (.inr ⟨by omega,rfl⟩) (.inl ⟨by omega,by omega,av6 (by omega)⟩)) (fun a h=>by cases h)
 |now=>exact .mk (.of (by omega) (by omega) rfl (.inr ⟨by omega,rfl⟩) (.inr ⟨by omega,rfl⟩)) (fun a h=>by cases h)
 |get h _ ih=>exact .mk (.of (by omega) (by omega) rfl (.inr ⟨by omega,rfl⟩) (.inl ⟨by omega,by omega,EV⟩)) (fun a h=>by rw[xy] at h;subst h;exact ih)
 |size h=>exact .mk (.of (by omega) (by omega) rfl (.inr ⟨by omega,rfl⟩) (.inl ⟨by omega,by omega,EV⟩)) (fun a h=>by cases h)
 |neg _ ih=>exact .mk (.of (by omega) (by omega) rfl (.inr ⟨by omega,rfl⟩) (.inr ⟨by omega,rfl⟩)) (fun a h=>by rw[xy] at h;subst h;exact ih)
 |bin op a b _ _ kQ eH=>exact .mk (.of (by omega) (by omega) (by unfold ku;rw[if_neg (by omega),if_pos (by omega)];rfl) (.inr ⟨by omega,rfl⟩) (.inr ⟨by omega,rfl⟩)) (fun a h=>by
  rcases xG.1 h with rfl|h
  ·exact kQ
  ·rw[xy] at h;subst h;exact eH)
theorem kJ.all{c:Sc}(hc:c.Ok){d:Nat}{e:Ex}(h:kJ c d e):kN jb e:=by
 have h1:=hc.f
 induction h with
 |lit op a b=>exact .mk (.of (by omega) (by omega) (by unfold ku;rw[if_neg (by omega),if_neg (by omega)];rfl) (.inr ⟨by omega,rfl⟩) (.inr ⟨by omega,rfl⟩)) (fun a h=>by cases h)
 |b0=>exact .mk (.of (by omega) (by omega) rfl (.inr ⟨by omega,rfl⟩) (.inl ⟨by omega,by omega,SU⟩)) (fun a h=>by cases h)
 |flag k h=>exact .mk (.of (by omega) (by omega) rfl (.inr ⟨by omega,rfl⟩) (.inl ⟨by omega,by omega,av7 (by omega)⟩)) (fun a h=>by cases h)
 |has h he=>exact .mk (.of (by omega) (by omega) rfl (.inr ⟨by omega,rfl⟩) (.inl ⟨by omega,by omega,EV⟩)) (fun a h=>by rw[xy] at h;subst h;exact he.all hc)
 |not _ ih=>exact .mk (.of (by omega) (by omega) rfl (.inr ⟨by omega,rfl⟩) (.inr ⟨by omega,rfl⟩)) (fun a h=>by rw[xy] at h;subst h;exact ih)
 |I8 op a b _ _ kQ eH=>exact .mk (.of (by omega) (by omega) (by unfold ku;rw[if_neg (by omega),if_pos (by omega)];rfl) (.inr ⟨by omega,rfl⟩) (.inr ⟨by omega,rfl⟩)) (fun a h=>by
  rcases xG.1 h with rfl|h
  ·exact kQ
  ·rw[xy] at h;subst h;exact eH)
 |cmp op a b ha hb=>exact .mk (.of (by omega) (by omega) (by unfold ku;rw[if_neg (by omega),if_pos (by omega)];rfl) (.inr ⟨by omega,rfl⟩) (.inr ⟨by omega,rfl⟩)) (fun a h=>by
  rcases xG.1 h with rfl|h
  ·exact ha.all hc
  ·rw[xy] at h;subst h;exact hb.all hc)
theorem G4{α β:Type}(f:α→β)(pre:List α)(a:α)(ae:List α):((pre++a::ae).map f)[pre.length]? =some (f a):=by
 rw[List.map_append,xq (by simp)];simp
end Go.Fl
namespace Go.Proofs.YtaginlnifpbfgaaGreatDoor
open Go.Ex Go.RowKit Go.Fl
section
variable{X:Nat→List D→Option (List D)}
theorem Xn:∀(l:List Fl.Ex),Ex.rs l=l.map Ex.r
 |[]=>rfl
 |e::l=>by show Ex.r e::Ex.rs l=_;rw[Xn l];rfl
theorem Dq:∀(l:List Fl.Ex),Ex.ss l=l.map Ex.s
 |[]=>rfl
 |e::l=>by show Ex.s e::Ex.ss l=_;rw[Dq l];rfl
theorem Wt:∀(l:List St),St.rs l=l.map St.r
 |[]=>rfl
 |e::l=>by show St.r e::St.rs l=_;rw[Wt l];rfl
theorem Gg:∀(l:List St),St.ss l=l.map St.s
 |[]=>rfl
 |e::l=>by show St.s e::St.ss l=_;rw[Gg l];rfl
theorem Xm(pre:List Fl.Ex)(a:Fl.Ex)(ae:List Fl.Ex):(Ex.rs (pre++a::ae))[pre.length]? =some (Ex.r a):=by rw[Xn];exact G4 _ _ _ _
theorem tH(pre:List Fl.Ex)(a:Fl.Ex)(ae:List Fl.Ex):(Ex.ss (pre++a::ae))[pre.length]? =some (Ex.s a):=by rw[Dq];exact G4 _ _ _ _
theorem bc4(pre:List St)(a:St)(ae:List St):(St.rs (pre++a::ae))[pre.length]? =some (St.r a):=by rw[Wt];exact G4 _ _ _ _
theorem y4(pre:List St)(a:St)(ae:List St):(St.ss (pre++a::ae))[pre.length]? =some (St.s a):=by rw[Gg];exact G4 _ _ _ _
theorem Ws(l:List Fl.Ex)(e:Fl.Ex):Ex.ss l++[Ex.s e]=Ex.ss (l++[e]):=by simp[Dq]
theorem aU6(l:List St)(e:St):St.ss l++[St.s e]=St.ss (l++[e]):=by simp[Gg]
theorem jC(l:List Fl.Ex):(Ex.ss l).length=l.length:=by simp[Dq]
theorem mY(l:List St):(St.ss l).length=l.length:=by simp[Gg]
theorem bp{α:Type}(pre:List α)(a:α)(ae:List α):pre++a::ae=(pre++[a])++ae:=by simp
theorem bg5{e:Fl.Ex}(h:kN jb e):Rn F X 12 0 (Ex.r e) (·=Ex.s e):=by
 induction h with
 | @mk op name n args hn ha ih=>
  obtain⟨h1,h2,h3,h4,h5⟩:=hn.get;have eE:ku op≤2:=by unfold ku;split<;>(try split)<;>omega
  have loop:∀(ae pre:List Fl.Ex),args=pre++ae→Rn F X 12 1 [.sl (Ex.rs args),jD args.length,jD pre.length,bD op,.str name,iD n,.sl (Ex.ss pre)] (·=Ex.s ⟨op,name,n,args⟩):=by
   intro ae
   induction ae with
   |nil=>
    intro pre hp;rw[xj] at hp;subst hp;exact wr rfl<|wn rfl ak<|wt rfl rfl
   |cons a ae dj=>
    intro pre hp;have aC:args.length=pre.length+(ae.length+1):=by rw[hp,xa];rfl
    have ap:(Ex.rs args)[pre.length]? =some (Ex.r a):=by rw[hp];exact Xm _ _ _
    have ny:=ih a (by rw[hp];simp);have:=dj (pre++[a]) (by rw[hp,bp]);rw[←Ws,xa] at this;obtain⟨o1,n1,i1,a1⟩:=a;exact wr rfl<|wy rfl ak<|wo rfl (aB ap rfl)<|wg 1 rfl<|lH<|wl rfl ny rfl<|oY<|wg 2 rfl<|wo rfl (gO rfl rfl (by rw[jC];omega) (by rw[jC];omega))<|wo rfl oA<|wj this
  exact wr rfl<|wo rfl (Kf (by omega))<|wo rfl (aA (wA _))<|wj (loop args [] rfl)
end
end Go.Proofs.YtaginlnifpbfgaaGreatDoor
namespace Go.Fl
open Go.Ex
mutual
def Ex.dp:Ex→Nat| .mk _ _ _ args=>Ex.dZ args+1
def Ex.dZ:List Ex→Nat|[]=>0|e::l=>max (Ex.dp e) (Ex.dZ l)
end
theorem fc.dp{c:Sc}{d:Nat}{e:Ex}(h:fc c d e):e.dp≤d+1:=by
 induction h with
 |num n h=>simp[Ex.dp,Ex.dZ]
 |var k h=>simp[Ex.dp,Ex.dZ]
 |mO k h=>simp[Ex.dp,Ex.dZ]
 |now=>simp[Ex.dp,Ex.dZ]
 |get h _ ih=>simp[Ex.dp,Ex.dZ];omega
 |size h=>simp[Ex.dp,Ex.dZ]
 |neg _ ih=>simp[Ex.dp,Ex.dZ];omega
 |bin op a b _ _ kQ eH=>simp[Ex.dp,Ex.dZ];omega
theorem kJ.dp{c:Sc}{d:Nat}{e:Ex}(h:kJ c d e):e.dp≤d+1:=by
 induction h with
 |lit op a b=>simp[Ex.dp,Ex.dZ]
 |b0=>simp[Ex.dp,Ex.dZ]
 |flag k h=>simp[Ex.dp,Ex.dZ]
 |has h he=>have:=he.dp;simp[Ex.dp,Ex.dZ];omega
 |not _ ih=>simp[Ex.dp,Ex.dZ];omega
 |I8 op a b _ _ kQ eH=>simp[Ex.dp,Ex.dZ];omega
 |cmp op a b ha hb=>have:=ha.dp;have:=hb.dp;simp[Ex.dp,Ex.dZ];omega
inductive hY (P:St→Prop):St→Prop
 |mk {kind:Nat} {name cg:aH} {bi:List Ex} {th el:List St} (h:P ⟨kind,name,cg,bi,th,el⟩) (h1:∀s∈th,hY P s) (h2:∀s∈el,hY P s):hY P ⟨kind,name,cg,bi,th,el⟩
theorem hY.head{P:St→Prop}{s:St}(h:hY P s):P s:=by cases h;assumption
structure Rx (kind:Nat) (name cg:aH) (bi:List Ex) (th el:List St):Prop where
 k1:1≤kind
 yy:kind≤10
 ex:∀e∈bi,kN jb e∧e.dp≤6
 nm:(kind=1∨kind=2∨kind=3∨kind=6∨kind=9)∧name∈GN∨(kind=4∨kind=5∨kind=7∨kind=8∨kind=10)∧name=[]
 hn:(kind=6∨kind=7)∧cg∈GN∨(kind≠6∧kind≠7)∧cg=[]
 ln:(kind=1∨kind=3∨kind=4∨kind=5∨kind=9)∧bi.length=1∨(kind=2∨kind=8)∧bi.length=2∨kind=6∧bi.length≤2∨kind=7∧1≤bi.length∧bi.length≤3∨kind=10∧bi.length=0
 thn:kind=4∨kind=5∨th=[]
 eln:kind=4∨kind=8∨kind=9∨el=[]
 tl:th.length≤12
 ll:el.length≤12
def nE:St→Prop| .mk kind name cg bi th el=>Rx kind name cg bi th el
structure Wd.Ok (w:Wd):Prop where
 sc:w.sc.Ok
 I':w.ar.length≤3
 v8:∀l∈w.ar,l.length≤3∧∀n∈l,n≤2
theorem jW{α:Type}{l:List α}{i:Nat}{a:α}(h:l[i]? =some a):i<l.length:=(xe.1 h).1
theorem vr{α:Type}{P:α→Prop}{a:α}(h:P a):∀x∈[a],P x:=fun x hx=>by rw[xy] at hx;subst hx;exact h
theorem LR{α:Type}{P:α→Prop}{a b:α}(h:P a)(k:P b):∀x∈[a,b],P x:=fun x hx=>by
 rcases xG.1 hx with rfl|hx
 ·exact h
 ·exact vr k x hx
theorem mL.node{w:Wd}(hw:w.Ok){B:List St→Prop}{s:St}(h:mL w B s)(hn:s.n≤12):nE s:=by
 have ie:∀{e:Ex},fc w.sc 3 e→kN jb e∧e.dp≤6:=fun h=>⟨h.all hw.sc,by have:=h.dp;omega⟩
 have be:∀{e:Ex},kJ w.sc 5 e→kN jb e∧e.dp≤6:=fun h=>⟨h.all hw.sc,by have:=h.dp;omega⟩
 have hi:=hw.sc.i;have aC:∀l:List St,St.ns l≤12→l.length≤12:=fun l h=>xH (Go.Proofs.YtaginlnifpbfgaaGreatDoor.ot l) h
 have hz:([]:List St).length≤12:=xL _;cases h with
 |nP k hk he=>exact⟨by omega,by omega,vr (ie he),.inl ⟨by omega,Mh (by omega)⟩,.inr ⟨by omega,rfl⟩,.inl ⟨by omega,rfl⟩,.inr (.inr rfl),.inr (.inr (.inr rfl)),hz,hz⟩
 |EA he=>exact⟨by omega,by omega,vr (be he),.inl ⟨by omega,SU⟩,.inr ⟨by omega,rfl⟩,.inl ⟨by omega,rfl⟩,.inr (.inr rfl),.inr (.inr (.inr rfl)),hz,hz⟩
 |put h ha hb=>exact⟨by omega,by omega,LR (ie ha) (ie hb),.inl ⟨by omega,EV⟩,.inr ⟨by omega,rfl⟩,.inr (.inl ⟨by omega,rfl⟩),.inr (.inr rfl),.inr (.inr (.inr rfl)),hz,hz⟩
 |del h ha=>exact⟨by omega,by omega,vr (ie ha),.inl ⟨by omega,EV⟩,.inr ⟨by omega,rfl⟩,.inl ⟨by omega,rfl⟩,.inr (.inr rfl),.inr (.inr (.inr rfl)),hz,hz⟩
 | @cond e he th el h1 h2=>have gY:=hn;simp[St.n] at gY;exact⟨by omega,by omega,vr (be he),.inr ⟨by omega,rfl⟩,.inr ⟨by omega,rfl⟩,.inl ⟨by omega,rfl⟩,.inl rfl,.inl rfl,aC _ (by simp[St.ns] at*;omega),aC _ (by simp[St.ns] at*;omega)⟩
 |HJ he h1=>have gY:=hn;simp[St.n] at gY;exact⟨by omega,by omega,vr (be he),.inr ⟨by omega,rfl⟩,.inr ⟨by omega,rfl⟩,.inl ⟨by omega,rfl⟩,.inr (.inl rfl),.inr (.inr (.inr rfl)),aC _ (by simp[St.ns] at*;omega),hz⟩
 |send i h n hi' hh he hn=>
  have q1:=jW hi';have q2:=jW hh
  have q3:=hw.v8 _ (xu hi');have q4:=q3.2 _ (xu hh);have q5:=hw.I';exact⟨by omega,by omega,fun e h=>ie (he e h),.inl ⟨by omega,Mi (by omega)⟩,.inl ⟨by omega,SS (by omega)⟩,.inr (.inr (.inl ⟨rfl,by omega⟩)),.inr (.inr rfl),.inr (.inr (.inr rfl)),hz,hz⟩
 |E7 h n hi' hh he hn=>
  have q1:=jW hi';have q2:=jW hh
  have q3:=hw.v8 _ (xu hi');have q4:=q3.2 _ (xu hh);exact⟨by omega,by omega,fun e h=>ie (he e h),.inr ⟨by omega,rfl⟩,.inl ⟨by omega,SS (by omega)⟩,.inr (.inr (.inr (.inl ⟨rfl,by omega,by omega⟩))),.inr (.inr rfl),.inr (.inr (.inr rfl)),hz,hz⟩
 |store ha hb h2=>have gY:=hn;simp[St.n] at gY;exact⟨by omega,by omega,LR (ie ha) (ie hb),.inr ⟨by omega,rfl⟩,.inr ⟨by omega,rfl⟩,.inr (.inl ⟨by omega,rfl⟩),.inr (.inr rfl),.inr (.inl rfl),hz,aC _ (by simp[St.ns] at*;omega)⟩
 |HC k hk ha h2=>have gY:=hn;simp[St.n] at gY;exact⟨by omega,by omega,vr (ie ha),.inl ⟨by omega,Mh (by omega)⟩,.inr ⟨by omega,rfl⟩,.inl ⟨by omega,rfl⟩,.inr (.inr rfl),.inr (.inr (.inl rfl)),hz,aC _ (by simp[St.ns] at*;omega)⟩
 |stop=>exact⟨by omega,by omega,fun e h=>(by cases h),.inr ⟨by omega,rfl⟩,.inr ⟨by omega,rfl⟩,.inr (.inr (.inr (.inr ⟨rfl,rfl⟩))),.inr (.inr rfl),.inr (.inr (.inr rfl)),hz,hz⟩
theorem Xv:∀{l:List St} {s:St},s∈l→s.n≤St.ns l
 |t::l,s,h=>by
  rcases xG.1 h with rfl|h
  ·simp[St.ns]
  ·have:=Xv h;simp[St.ns];omega
theorem mL.nest{w:Wd}{B:List St→Prop}{kind:Nat}{name cg:aH}{bi:List Ex}{th el:List St}(h:mL w B ⟨kind,name,cg,bi,th,el⟩):(th=[]∨B th)∧(el=[]∨B el):=by
 cases h with
 |cond he h1 h2=>exact⟨.inr h1,.inr h2⟩
 |HJ he h1=>exact⟨.inr h1,.inl rfl⟩
 |store ha hb h2=>exact⟨.inl rfl,.inr h2⟩
 |HC k hk ha h2=>exact⟨.inl rfl,.inr h2⟩
 |nP|EA|put|del|send|E7|stop=>exact⟨.inl rfl,.inl rfl⟩
theorem l9.all{w:Wd}(hw:w.Ok):∀{d:Nat} {l:List St},l9 w d l→St.ns l≤12→∀s∈l,hY nE s
 |0,l,h,_,s,hs=>by rw[show l=[] from h] at hs;cases hs
 |d+1,l,h,hn,s,hs=>by
  have h1:=h s hs;have h2:=Xv hs;have h3:=h1.node hw (by omega);obtain⟨kind,name,cg,bi,th,el⟩:=s;simp only [St.n] at h2;obtain⟨n1,n2⟩:=h1.nest;refine .mk h3 (fun s hs=> ?_) (fun s hs=> ?_)
  ·rcases n1 with rfl|n1
   ·cases hs
   ·exact l9.all hw n1 (by omega) s hs
  ·rcases n2 with rfl|n2
   ·cases hs
   ·exact l9.all hw n2 (by omega) s hs
end Go.Fl
namespace Go.Proofs.YtaginlnifpbfgaaGreatDoor
open Go.Ex Go.RowKit Go.Fl
section
variable{X:Nat→List D→Option (List D)}
def Sub(P:List St→Prop):St→Prop| .mk _ _ _ _ th el=>P th∧P el
theorem hY.sub{P:List St→Prop}(H:∀l:List St,l.length≤12→(∀s∈l,nE s∧Sub P s)→P l){s:St}(h:hY nE s):Sub P s:=by
 induction h with
 | @mk kind name cg bi th el h h1 h2 kQ eH=>exact⟨H th h.tl (fun s hs=>⟨(h1 s hs).head,kQ s hs⟩),H el h.ll (fun s hs=>⟨(h2 s hs).head,eH s hs⟩)⟩
theorem hY.list{P:List St→Prop}(H:∀l:List St,l.length≤12→(∀s∈l,nE s∧Sub P s)→P l){l:List St}(hl:l.length≤12)(h:∀s∈l,hY nE s):P l:=H l hl (fun s hs=>⟨(h s hs).head,hY.sub H (h s hs)⟩)
theorem ba3{l:List St}(hl:l.length≤12)(h:∀s∈l,hY nE s):Rn F X 13 0 [.sl (St.rs l)] (·=[.sl (St.ss l)]):=by
 refine hY.list (P:=fun l=>Rn F X 13 0 [.sl (St.rs l)] (·=[.sl (St.ss l)])) ?_ hl h;clear hl h l;intro l hl h;have loop:∀(ae pre:List St),l=pre++ae→Rn F X 13 1 [.sl (St.ss pre),.sl (St.rs l),jD l.length,jD pre.length] (·=[.sl (St.ss l)]):=by
  intro ae
  induction ae with
  |nil=>
   intro pre hp;rw[xj] at hp;subst hp;exact wr rfl<|wn rfl ak<|wt rfl rfl
  |cons a ae dj=>
   intro pre hp;have aC:l.length=pre.length+(ae.length+1):=by rw[hp,xa];rfl
   have ap:(St.rs l)[pre.length]? =some (St.r a):=by rw[hp];exact bc4 _ _ _
   obtain⟨ha,hs⟩:=h a (by rw[hp];simp);have:=dj (pre++[a]) (by rw[hp,bp]);rw[←aU6,xa] at this;obtain⟨kind,name,cg,bi,th,el⟩:=a;obtain⟨ej,eK⟩:=hs;have dj8:=ha.yy;have fF:bi.length≤3:=by have:=ha.ln;omega
   have Rg:∀(dD bH:List Fl.Ex),bi=bH++dD→Rn F X 13 2 [.sl (St.ss pre),.sl (St.rs l),jD l.length,jD pre.length,.sl (Ex.rs bi),jD bi.length,jD bH.length,bD kind,.str name,.str cg,.sl (Ex.ss bH),.sl (St.ss th),.sl (St.ss el)] (·=[.sl (St.ss l)]):=by
    intro dD
    induction dD with
    |nil=>
     intro bH aY;rw[xj] at aY;subst aY;exact wr rfl<|wn rfl ak<|wg 2 rfl<|wo rfl (gO rfl rfl (by rw[mY];omega) (by rw[mY];omega))<|wo rfl oA<|wj this
    |cons e dD eH=>
     intro bH aY;have xX:bi.length=bH.length+(dD.length+1):=by rw[aY,xa];rfl
     have lE:(Ex.rs bi)[bH.length]? =some (Ex.r e):=by rw[aY];exact Xm _ _ _
     have he:=(ha.ex e (by rw[aY];simp)).1;have XX:=eH (bH++[e]) (by rw[aY,bp]);rw[←Ws,xa] at XX;have fW:=bg5 (X:=X) he;obtain⟨o1,n1,i1,a1⟩:=e;exact wr rfl<|wy rfl ak<|wo rfl (aB lE rfl)<|wg 1 rfl<|Fc<|wl rfl fW rfl<|js<|wg 2 rfl<|wo rfl (gO rfl rfl (by rw[jC];omega) (by rw[jC];omega))<|wo rfl oA<|wj XX
   exact wr rfl<|wy rfl ak<|wo rfl (aB ap rfl)<|wg 1 rfl<|dh<|wo rfl (Kf (by omega))<|wl rfl ej rfl<|wl rfl eK rfl<|wo rfl (aA (wA _))<|dJ<|wj (Rg bi [] rfl)
 exact wr rfl<|wo rfl (aA (JM _))<|wj (loop l [] rfl)
end
end Go.Proofs.YtaginlnifpbfgaaGreatDoor
namespace Go.Fl
open Go.Ex
mutual
def St.dp:St→Nat| .mk _ _ _ _ th el=>max (St.dZ th) (St.dZ el)
def St.dZ:List St→Nat|[]=>0|s::l=>max (St.dp s+1) (St.dZ l)
end
structure CX (h:Hn):Prop where
 name:h.name∈GN
 params:h.params.length≤2∧∀p∈h.params,p∈GN
 n:St.ns h.body≤12
 dp:St.dZ h.body≤4
 len:h.body.length≤12
 body:∀s∈h.body,hY nE s
structure VrS (v:Vr):Prop where
 name:v.name∈GN
 type:v.type=1∧v.init≤2∨(v.type=2∨v.type=3)∧v.init=0
structure Ja (c:Cm):Prop where
 name:c.name∈GN
 vars:c.vars.length≤5∧∀v∈c.vars,VrS v
 vs:1≤c.bx.length∧c.bx.length≤2
 hs:∀l∈c.bx,l.length≤3∧∀h∈l,CX h
structure LkS (l:Lk):Prop where
 src:l.src∈GN
 dst:l.dst∈GN
 Ay:1≤l.Ay∧l.Ay≤3
structure uV (f:bq):Prop where
 name:f.name∈GN
 flags:f.flags.length≤2∧∀x∈f.flags,x.name∈GN
 links:f.links.length≤9∧∀x∈f.links,LkS x
 comps:1≤f.comps.length∧f.comps.length≤3∧∀x∈f.comps,Ja x
theorem XL:∀{l:List St} {n:Nat},(∀s∈l,s.dp+1≤n)→St.dZ l≤n
 |[],n,h=>xL _
 |s::l,n,h=>by
  have h1:=h s (by simp);have h2:=XL (l:=l) (fun t ht=>h t (by simp[ht]));simp only [St.dZ];omega
theorem l9.dp{w:Wd}:∀{d:Nat} {l:List St},l9 w d l→St.dZ l≤d
 |0,l,h=>by rw[show l=[] from h];exact xk _
 |d+1,l,h=>XL fun s hs=>by
  have h1:=h s hs;obtain⟨kind,name,cg,bi,th,el⟩:=s;obtain⟨n1,n2⟩:=h1.nest;have e1:St.dZ th≤d:=by
   rcases n1 with rfl|n1
   ·exact xL _
   ·exact l9.dp n1
  have e2:St.dZ el≤d:=by
   rcases n2 with rfl|n2
   ·exact xL _
   ·exact l9.dp n2
  simp only [St.dp];omega
theorem tI{α:Type}{l:List α}{a:α}(h:a∈l):∃i:Nat,l[i]? =some a:=List.mem_iff_getElem?.1 h
theorem sQ.ok{ints tables flags own:Nat}{ar:List (List Nat)}{al:List Nat}{k:Nat}{h:Hn}(hk:k<3)(i3:ints≤3)(t1:tables≤1)(f2:flags≤2)(I':ar.length≤3)(cP:∀l∈ar,1≤l.length∧l.length≤3∧∀n∈l,n≤2)(bt:al∈ar)(ho:sQ ints tables flags own ar al k h):CX h:=by
 obtain⟨n,hn,hp,hb⟩:=ho.mO;have jk:=(cP al bt).2.2 n (xu hn);have mR:h.params.length≤2∧∀p∈h.params,p∈GN:=by
  rw[hp];refine⟨by simp[bl];exact jk,fun p h=> ?_⟩;obtain⟨j,hj,rfl⟩:=xJ.1 h;exact av6 (by have:=List.mem_range.1 hj;omega)
 exact⟨by rw[ho.name];exact SS hk,mR,ho.n,hb.dp,xH (Go.Proofs.YtaginlnifpbfgaaGreatDoor.ot _) ho.n,hb.all ⟨⟨i3,t1,f2,jk⟩,I',fun l h=>(cP l h).2⟩ ho.n⟩
theorem hR.ok{nf i:Nat}{ar:List (List Nat)}{c:Cm}(f2:nf≤2)(I':ar.length≤3)(cP:∀l∈ar,1≤l.length∧l.length≤3∧∀n∈l,n≤2)(ho:hR nf ar i c):Ja c:=by
 obtain⟨ints,tables,al,i1,i3,t1,bt,hv,h1,h2,h3,h4⟩:=ho.rest;have hi:=jW bt;have hm:=xu bt;refine⟨by rw[ho.name];exact Mi (by omega),⟨by rw[hv];simp;omega,fun v h=> ?_⟩,⟨h1,h2⟩,fun l hl=>⟨xH (h4 l hl).2.1 (cP al hm).2.1,fun h hh=> ?_⟩⟩
 ·rw[hv] at h;rcases xF.1 h with h|h
  ·obtain⟨j,hj,rfl⟩:=xJ.1 h;have:=List.mem_range.1 hj;exact⟨Mh (by omega),.inl ⟨rfl,by show j≤2;omega⟩⟩
  ·rcases xG.1 h with rfl|h
   ·exact⟨SU,.inr ⟨.inl rfl,rfl⟩⟩
   ·obtain⟨j,hj,rfl⟩:=xJ.1 h;have:=List.mem_range.1 hj;obtain rfl:j=0:=by omega
    exact⟨EV,.inr ⟨.inr rfl,rfl⟩⟩
 ·obtain⟨k,hk⟩:=tI hh;have q:=(h4 l hl).2.1;have q2:=jW hk;have q3:=(cP al hm).2.1;exact((h4 l hl).2.2 k h hk).ok (by omega) i3 t1 f2 I' cP hm
theorem iC.ok{ar:List (List Nat)}{f:bq}(h:iC ar f):uV f:=by
 have hn:=h.n;obtain⟨ks,gZ,hp,hk⟩:=h.links;have hk9:ar.length*ar.length≤9:=Nat.mul_le_mul hn.2.2 hn.2.2;refine⟨by rw[h.name];decide,⟨h.flags.1,fun x hx=> ?_⟩,⟨?_,fun x hx=> ?_⟩,⟨by omega,by omega,fun c hc=> ?_⟩⟩
 ·obtain⟨i,hi⟩:=tI hx;have:=jW hi;rw[h.flags.2 i x hi];exact av7 (by have:=h.flags.1;omega)
 ·rw[gZ,xm];have hb:∀(l:List (Nat×Nat)) (m:Nat),l.Pairwise (fun p q=>p.1<q.1)→(∀p∈l,m≤p.1∧p.1<9)→l.length+m≤9∨l=[]:=by
   intro l
   induction l with
   |nil=>intro m _ _;exact .inr rfl
   |cons p l ih=>
    intro m hp hm;have h1:=hm p (by simp);cases hp with
    |cons h2 h3=>
     rcases ih (p.1+1) h3 (fun q hq=>⟨h2 q hq,(hm q (by simp[hq])).2⟩) with h|rfl
     ·left;rw[xi];omega
     ·left;simp;omega
  rcases hb ks 0 hp (fun p hp=>⟨xL _,by have:=hk p hp;omega⟩) with h|rfl
  ·omega
  ·exact xL _
 ·rw[gZ] at hx;obtain⟨p,hp,rfl⟩:=xJ.1 hx;have h1:=hk p hp;have h2:p.1/ar.length<ar.length:=Nat.div_lt_of_lt_mul h1.1;have h3:p.1%ar.length<ar.length:=Nat.mod_lt _ hn.2.1;exact⟨Mi (by omega),Mi (by omega),h1.2⟩
 ·obtain⟨i,hi⟩:=tI hc;exact(h.comps i c hi).ok h.flags.1 hn.2.2 h.v8
end Go.Fl
namespace Go.Proofs.YtaginlnifpbfgaaGreatDoor
open Go.Ex Go.RowKit Go.Fl
section
variable{X:Nat→List D→Option (List D)}
theorem bR{α:Type}{f:α→List D}{l pre ae:List α}{a:α}(h:l=pre++a::ae):(l.map f)[pre.length]? =some (f a):=by subst h;exact G4 _ _ _ _
theorem bu{α:Type}{l pre ae:List α}{a:α}(h:l=pre++a::ae):l.length=pre.length+(ae.length+1):=by rw[h,xa];rfl
theorem Gj{α:Type}(f:α→List D)(l:List α)(a:α):l.map f++[f a]=(l++[a]).map f:=by simp
theorem ch{α:Type}(f:α→List D)(l:List α):(l.map f).length=l.length:=xm _
theorem Jn(l:List aH):∀row∈strs l,row.length=1∧row.all D.cell=true:=by
 intro row h;obtain⟨p,_,rfl⟩:=xJ.1 h;exact⟨rfl,rfl⟩
def MB(vs:List (List Hn)):List (List D):=vs.map fun l=>[.sl (l.map Hn.r)]
def cL(vs:List (List Hn)):List (List D):=vs.map fun l=>[.sl (l.map Hn.s)]
theorem aO0{cs:List Cm}{nm:aH}{A B:List (List D)}(h3:cs.length≤3)(hc:∀c∈cs,Ja c):∀(ae pre:List Cm),cs=pre++ae→Rn F X 14 3 [.sl (cs.map Cm.r),jD cs.length,jD pre.length,.str nm,.sl A,.sl B,.sl (pre.map Cm.s)] (·=[.str nm,.sl A,.sl B,.sl (cs.map Cm.s)]):=by
 intro ae
 induction ae with
 |nil=>
  intro pre hp;rw[xj] at hp;subst hp;exact wr rfl<|wn rfl ak<|wt rfl rfl
 |cons c ae dj=>
  intro pre hp;have aC:=bu hp;have ap:=bR (f:=Cm.r) hp;have cw:=hc c (by rw[hp];simp);have next:=dj (pre++[c]) (by rw[hp,bp]);rw[←Gj,xa] at next;obtain⟨cn,vars,vs⟩:=c;have hvn:vars.length≤5:=cw.vars.1;have ji:vs.length≤2:=cw.vs.2;have kA:∀(dD bH:List (List Hn)),vs=bH++dD→Rn F X 14 5 [.sl (cs.map Cm.r),jD cs.length,jD pre.length,.sl (MB vs),jD vs.length,jD bH.length,.str nm,.sl A,.sl B,.sl (pre.map Cm.s),.str cn,.sl (vars.map Vr.s),.sl (cL bH)] (·=[.str nm,.sl A,.sl B,.sl (cs.map Cm.s)]):=by
   intro dD
   induction dD with
   |nil=>
    intro bH aY;rw[xj] at aY;subst aY;exact wr rfl<|wn rfl ak<|wg 2 rfl<|wo rfl (gO rfl rfl (by rw[ch];omega) (by rw[ch];omega))<|wo rfl oA<|wj next
   |cons v dD eH=>
    intro bH aY;have xX:=bu aY;have lE:(MB vs)[bH.length]? =some [.sl (v.map Hn.r)]:=bR (f:=fun l:List Hn=>[D.sl (l.map Hn.r)]) aY;have iN:=eH (bH++[v]) (by rw[aY,bp]);have es:cL (bH++[v])=cL bH++[[.sl (v.map Hn.s)]]:=by simp[cL]
    rw[es,xa] at iN;have hv:=cw.hs v (by show v∈vs;rw[aY];simp);have fV:(cL bH).length=bH.length:=xm _;have mh:∀(dI bw:List Hn),v=bw++dI→Rn F X 14 6 [.sl (cs.map Cm.r),jD cs.length,jD pre.length,.sl (MB vs),jD vs.length,jD bH.length,.sl (v.map Hn.r),jD v.length,jD bw.length,.str nm,.sl A,.sl B,.sl (pre.map Cm.s),.str cn,.sl (vars.map Vr.s),.sl (cL bH),.sl (bw.map Hn.s)] (·=[.str nm,.sl A,.sl B,.sl (cs.map Cm.s)]):=by
     intro dI
     induction dI with
     |nil=>
      intro bw bF;rw[xj] at bF;subst bF;exact wr rfl<|wn rfl ak<|wg 2 rfl<|wo rfl oP<|wo rfl oA<|wj iN
     |cons h dI mP=>
      intro bw bF;have xW:=bu bF;have gk:=bR (f:=Hn.r) bF;have eZ:=mP (bw++[h]) (by rw[bF,bp]);rw[←Gj,xa] at eZ;have hh:=hv.2 h (by rw[bF];simp);have hb:=ba3 (X:=X) hh.len hh.body;have TL:=hv.1;obtain⟨hn,mR,FK⟩:=h;have dj2:mR.length≤2:=hh.params.1;have fp:(strs mR).length=mR.length:=xm _;exact wr rfl<|wy rfl ak<|wo rfl (aB gk rfl)<|wg 1 rfl<|iE<|wg 1 rfl<|wo rfl (GK (rows:=[]) (Jn _) (by simp;omega) (by simp;omega))<|wl rfl hb rfl<|wg 2 rfl<|wo rfl (gO rfl rfl (by rw[ch];omega) (by rw[ch];omega))<|yq<|wo rfl oA<|wj eZ
    exact wr rfl<|wy rfl ak<|wo rfl (aB lE rfl)<|wg 1 rfl<|wo rfl (aA (ch _ _))<|wj (mh v [] rfl)
  have G7:∀(dD bH:List Vr),vars=bH++dD→Rn F X 14 4 [.sl (cs.map Cm.r),jD cs.length,jD pre.length,.sl (vars.map Vr.r),jD vars.length,jD bH.length,.str nm,.sl A,.sl B,.sl (pre.map Cm.s),.str cn,.sl (MB vs),.sl (bH.map Vr.s)] (·=[.str nm,.sl A,.sl B,.sl (cs.map Cm.s)]):=by
   intro dD
   induction dD with
   |nil=>
    intro bH aY;rw[xj] at aY;subst aY;exact wr rfl<|wn rfl ak<|wo rfl (aA (xm _))<|wj (kA vs [] rfl)
   |cons v dD eH=>
    intro bH aY;have xX:=bu aY;have lE:=bR (f:=Vr.r) aY;have iN:=eH (bH++[v]) (by rw[aY,bp]);rw[←Gj,xa] at iN;have hv:=(cw.vars.2 v (by show v∈vars;rw[aY];simp)).type;obtain⟨vn,vt,vi⟩:=v;have hvt:vt≤3:=by simp at hv;omega
    exact wr rfl<|wy rfl ak<|wo rfl (aB lE rfl)<|wg 1 rfl<|gu<|wo rfl (Kf (by omega))<|wg 2 rfl<|wo rfl (gO rfl rfl (by rw[ch];omega) (by rw[ch];omega))<|wo rfl oA<|iE<|wj iN
  exact wr rfl<|wy rfl ak<|wo rfl (aB ap rfl)<|wg 1 rfl<|dh<|wo rfl (aA (ch _ _))<|wj (G7 vars [] rfl)
theorem aN9{f:bq}(hf:uV f):Rn F X 14 0 f.r (·=f.s):=by
 obtain⟨nm,fl,lk,cs⟩:=f;have IN:fl.length≤2:=hf.flags.1;have IF:lk.length≤9:=hf.links.1;have cw:cs.length≤3:=hf.comps.2.1;have Bx:∀(ae pre:List Lk),lk=pre++ae→Rn F X 14 2 [.sl (lk.map Lk.d),jD lk.length,jD pre.length,.str nm,.sl (fl.map Fg.d),.sl (cs.map Cm.r),.sl (fl.map Fg.d),.sl (pre.map Lk.d)] (·=[.str nm,.sl (fl.map Fg.d),.sl (lk.map Lk.d),.sl (cs.map Cm.s)]):=by
  intro ae
  induction ae with
  |nil=>
   intro pre hp;rw[xj] at hp;subst hp;exact wr rfl<|wn rfl ak<|wo rfl (aA (ch _ _))<|Wp.jump rfl (aO0 cw hf.comps.2.2 cs [] rfl)
  |cons v ae ih=>
   intro pre hp;have aC:=bu hp;have ap:=bR (f:=Lk.d) hp;have next:=ih (pre++[v]) (by rw[hp,bp]);rw[←Gj,xa] at next;obtain⟨a,b,c⟩:=v;exact wr rfl<|wy rfl ak<|wo rfl (aB ap rfl)<|wg 1 rfl<|lH<|wg 2 rfl<|wo rfl (gO rfl rfl (by rw[ch];omega) (by rw[ch];omega))<|wo rfl oA<|wj next
 have BM:∀(ae pre:List Fg),fl=pre++ae→Rn F X 14 1 [.sl (fl.map Fg.d),jD fl.length,jD pre.length,.str nm,.sl (lk.map Lk.d),.sl (cs.map Cm.r),.sl (pre.map Fg.d)] (·=[.str nm,.sl (fl.map Fg.d),.sl (lk.map Lk.d),.sl (cs.map Cm.s)]):=by
  intro ae
  induction ae with
  |nil=>
   intro pre hp;rw[xj] at hp;subst hp;exact wr rfl<|wn rfl ak<|wo rfl (aA (ch _ _))<|wj (Bx lk [] rfl)
  |cons v ae ih=>
   intro pre hp;have aC:=bu hp;have ap:=bR (f:=Fg.d) hp;have next:=ih (pre++[v]) (by rw[hp,bp]);rw[←Gj,xa] at next;obtain⟨a,b⟩:=v;cases b
   ·exact wr rfl<|wy rfl ak<|wo rfl (aB ap rfl)<|wg 2 rfl<|n7<|wg 2 rfl<|wo rfl (gO rfl rfl (by rw[ch];omega) (by rw[ch];omega))<|wo rfl oA<|wj next
   ·exact wr rfl<|wy rfl ak<|wo rfl (aB ap rfl)<|wg 1 rfl<|n7<|wg 2 rfl<|wo rfl (gO rfl rfl (by rw[ch];omega) (by rw[ch];omega))<|wo rfl oA<|wj next
 exact wr rfl<|wo rfl (aA (ch _ _))<|wj (BM fl [] rfl)
end
end Go.Proofs.YtaginlnifpbfgaaGreatDoor
namespace Go.Fl
open Go.Ex
theorem Ex.Pw:∀{l:List Ex} {a:Ex},a∈l→a.dp≤Ex.dZ l
 |e::l,a,h=>by
  rcases xG.1 h with rfl|h
  ·simp only [Ex.dZ];omega
  ·have:=Ex.Pw h;simp only [Ex.dZ];omega
theorem Ex.V5:∀(l:List Ex) (a:Ex),Ex.dZ (l++[a])=max (Ex.dZ l) a.dp
 |[],a=>by simp[Ex.dZ]
 |e::l,a=>by simp only [List.cons_append,Ex.dZ,Ex.V5 l a];omega
def St.mx:List St→Nat|[]=>0|s::l=>max (St.dp s) (St.mx l)
theorem St.WM:∀(l:List St) (a:St),St.mx (l++[a])=max (St.mx l) a.dp
 |[],a=>by simp[St.mx]
 |e::l,a=>by simp only [List.cons_append,St.mx,St.WM l a];omega
theorem St.XK:∀(l:List St),l≠[]→St.dZ l=St.mx l+1
 |[],h=>absurd rfl h
 |[s],_=>by simp[St.dZ,St.mx]
 |s::t::l,_=>by
  have:=St.XK (t::l) (by simp);rw[St.dZ,St.mx,this];omega
def St.sb:List St→Nat|[]=>0|s::l=>St.sub s+St.sb l
theorem St.Wv:∀(l:List St) (a:St),St.sb (l++[a])=St.sb l+a.sub
 |[],a=>by simp[St.sb]
 |e::l,a=>by simp only [List.cons_append,St.sb,St.Wv l a];omega
theorem St.QA:∀(l:List St),St.ns l=l.length+St.sb l
 |[]=>rfl
 | .mk .. ::l=>by simp only [St.ns,St.n,St.sb,St.sub,St.QA l,xi];omega
theorem St.wF:∀(l m:List St),St.ns (l++m)=St.ns l+St.ns m
 |[],m=>by simp[St.ns]
 |e::l,m=>by simp only [List.cons_append,St.ns,St.wF l m];omega
theorem St.Xw:∀{l:List St} {a:St},a∈l→a.dp≤St.mx l
 |e::l,a,h=>by
  rcases xG.1 h with rfl|h
  ·simp only [St.mx];omega
  ·have:=St.Xw h;simp only [St.mx];omega
end Go.Fl
namespace Go.Proofs.YtaginlnifpbfgaaGreatDoor
open Go.Ex Go.RowKit Go.Fl
section
variable{X:Nat→List D→Option (List D)}
theorem bd9{a b c:Nat}:aU .mx [iD a,iD b,iD c]=some (iD (max a (max b c))):=by rw[bn3];congr 2;omega
theorem aM3{e:Fl.Ex}(h:kN jb e):e.dp≤100→Rn F X 17 0 (Ex.s e) (·=[iD e.dp]):=by
 induction h with
 | @mk op name n args hn ha ih=>
  intro hd;have kx:Ex.dZ args+1≤100:=hd;obtain⟨h1,h2,h3,h4,h5⟩:=hn.get;have eE:ku op≤2:=by unfold ku;split<;>(try split)<;>omega
  have loop:∀(ae pre:List Fl.Ex),args=pre++ae→Rn F X 17 1 [iD (Ex.dZ pre),jD args.length,jD pre.length,bD op,.str name,iD n,.sl (Ex.ss args)] (·=[iD (Ex.dZ args+1)]):=by
   intro ae
   induction ae with
   |nil=>
    intro pre hp;rw[xj] at hp;subst hp;exact wr rfl<|wn rfl ak<|wo rfl oA<|wt rfl rfl
   |cons a ae dj=>
    intro pre hp;have aC:=bu hp;have ap:(Ex.ss args)[pre.length]? =some (Ex.s a):=by rw[hp];exact tH _ _ _
    have hm:a∈args:=by rw[hp];simp
    have ny:=ih a hm (xH (Ex.Pw hm) (by omega));have:=dj (pre++[a]) (by rw[hp,bp]);rw[Ex.V5,xa] at this;obtain⟨o1,n1,i1,a1⟩:=a;exact wr rfl<|wy rfl ak<|wo rfl (aB ap rfl)<|wg 1 rfl<|lH<|wl rfl ny rfl<|wo rfl bn4<|wo rfl oA<|wj this
  exact wr rfl<|wo rfl (aA (jC _))<|wj (loop args [] rfl)
theorem aU0:∀(m:Nat) (l:List St),St.ns l≤m→m≤12→Rn F X 15 0 [.sl (St.ss l)] (·=[iD (St.ns l)]):=by
 intro m
 induction m with
 |zero=>
  intro l hl _;have:=ot l;obtain rfl:l=[]:=xE.1 (by omega);exact wr rfl<|wo rfl bf<|wo rfl bf<|Wp.jump rfl<|wr rfl<|wg 1 rfl<|wt rfl rfl
 |succ m ih=>
  intro l hl hm;have vS:=St.QA l;have loop:∀(ae pre:List St),l=pre++ae→Rn F X 15 1 [.sl (St.ss l),iD (l.length+St.sb pre),jD l.length,jD pre.length] (·=[iD (St.ns l)]):=by
   intro ae
   induction ae with
   |nil=>
    intro pre hp;rw[xj] at hp;subst hp;rw[←vS];exact wr rfl<|wn rfl ak<|wt rfl rfl
   |cons a ae dj=>
    intro pre hp;have aC:=bu hp;have ap:(St.ss l)[pre.length]? =some (St.s a):=by rw[hp];exact y4 _ _ _
    have kv:St.ns l=St.ns pre+(St.n a+St.ns ae):=by rw[hp,St.wF];rfl
    have TS:=St.QA pre;have:=dj (pre++[a]) (by rw[hp,bp]);rw[St.Wv,xa] at this;obtain⟨kind,name,cg,bi,th,el⟩:=a;simp only [St.n] at kv;simp only [St.sub] at this;rw[←Nat.add_assoc] at this;have i1:=ih th (by omega) (by omega);have i2:=ih el (by omega) (by omega);exact wr rfl<|wy rfl ak<|wo rfl (aB ap rfl)<|wg 2 rfl<|wo rfl (aB ap rfl)<|w8<|wg 2 rfl<|wl rfl i1 rfl<|wl rfl i2 rfl<|lH<|wo rfl (m4 (by omega))<|wo rfl (m4 (by omega))<|wo rfl oA<|wj this
  exact wr rfl<|wo rfl (aA (mY _))<|wo rfl (aA (mY _))<|wj (loop l [] rfl)
theorem aY6:∀(m:Nat) (l:List St),St.ns l≤m→m≤12→St.dZ l≤12→Rn F X 16 0 [.sl (St.ss l)] (·=[iD (St.dZ l)]):=by
 intro m
 induction m with
 |zero=>
  intro l hl _ _;have:=ot l;obtain rfl:l=[]:=xE.1 (by omega);exact wr rfl<|wo rfl bf<|wg 1 rfl<|wt rfl rfl
 |succ m ih=>
  intro l hl hm hd;rcases xI l.length with h0|h0
  ·obtain rfl:l=[]:=xE.1 h0;exact wr rfl<|wo rfl bf<|wg 1 rfl<|wt rfl rfl
  have bA:l≠[]:=fun h=>by rw[h] at h0;cases h0
  have lU:=St.XK l bA;have dj4:=ot l;have loop:∀(ae pre:List St),l=pre++ae→Rn F X 16 1 [.sl (St.ss l),iD (St.mx pre),jD l.length,jD pre.length] (·=[iD (St.dZ l)]):=by
   intro ae
   induction ae with
   |nil=>
    intro pre hp;rw[xj] at hp;subst hp;rw[lU];exact wr rfl<|wn rfl ak<|wo rfl oA<|wt rfl rfl
   |cons a ae dj=>
    intro pre hp;have aC:=bu hp;have ap:(St.ss l)[pre.length]? =some (St.s a):=by rw[hp];exact y4 _ _ _
    have kv:St.ns l=St.ns pre+(St.n a+St.ns ae):=by rw[hp,St.wF];rfl
    have hdm:=St.Xw (l:=l) (a:=a) (by rw[hp];simp);have:=dj (pre++[a]) (by rw[hp,bp]);rw[St.WM,xa] at this;obtain⟨kind,name,cg,bi,th,el⟩:=a;simp only [St.n] at kv;simp only [St.dp] at this hdm;have i1:=ih th (by omega) (by omega) (by omega);have i2:=ih el (by omega) (by omega) (by omega);exact wr rfl<|wy rfl ak<|wo rfl (aB ap rfl)<|wg 2 rfl<|wo rfl (aB ap rfl)<|w8<|wg 2 rfl<|wl rfl i1 rfl<|wl rfl i2 rfl<|lH<|wo rfl bd9<|wo rfl oA<|wj this
  exact wr rfl<|wo rfl (aA (mY _))<|wn rfl ay<|wo rfl (aA (mY _))<|wj (loop l [] rfl)
theorem W9{op:Nat}(h1:1≤op)(h2:op≤23){P:Nat→Prop}(h:P 1∧P 2∧P 3∧P 4∧P 5∧P 6∧P 7∧P 8∧P 9∧P 10∧P 11∧P 12∧P 13∧P 14∧P 15∧P 16∧P 17∧P 18∧P 19∧P 20∧P 21∧P 22∧P 23):P op:=by
 have:op=1∨op=2∨op=3∨op=4∨op=5∨op=6∨op=7∨op=8∨op=9∨op=10∨op=11∨op=12∨op=13∨op=14∨op=15∨op=16∨op=17∨op=18∨op=19∨op=20∨op=21∨op=22∨op=23:=by omega
 obtain⟨a1,a2,a3,a4,a5,a6,a7,a8,a9,a10,a11,a12,a13,a14,a15,a16,a17,a18,a19,a20,a21,a22,a23⟩:=h;rcases this with rfl|rfl|rfl|rfl|rfl|rfl|rfl|rfl|rfl|rfl|rfl|rfl|rfl|rfl|rfl|rfl|rfl|rfl|rfl|rfl|rfl|rfl|rfl<;>assumption
def x8(op:Nat):Bool:=decide (5≤op∧op≤8)
def HP(op:Nat):Nat:=if op≤8 then 7 else if op≤10 then 6 else if op≤13 then 5 else if op≤15 then 4 else if op≤21 then 3 else if op=22 then 2 else 1
def pI(op:Nat):aH:=match op with
 |2=>[116,114,117,101]
 |3=>[102,97,108,115,101]
 |4=>[110,111,119]
 |7=>[104,97,115,32]
 |8=>[115,105,122,101,32]
 |9=>[45]
 |10=>[110,111,116,32]
 |11=>[32,42,32]
 |12=>[32,47,32]
 |13=>[32,37,32]
 |14=>[32,43,32]
 |15=>[32,45,32]
 |16=>[32,61,61,32]
 |17=>[32,33,61,32]
 |18=>[32,60,32]
 |19=>[32,60,61,32]
 |20=>[32,62,32]
 |21=>[32,62,61,32]
 |22=>[32,97,110,100,32]
 |23=>[32,111,114,32]
 |_=>[]
theorem yY{op:Nat}(h1:1≤op)(h2:op≤23):Rn F X 18 0 [bD op] (·=[iD (ku op),.bool (x8 op),iD (HP op),.str (pI op),.bool true]):=by
 refine W9 h1 h2 (P:=fun op=>Rn F X 18 0 [bD op] (·=[iD (ku op),.bool (x8 op),iD (HP op),.str (pI op),.bool true])) ⟨?_,?_,?_,?_,?_,?_,?_,?_,?_,?_,?_,?_,?_,?_,?_,?_,?_,?_,?_,?_,?_,?_,?_⟩
 ·exact wr rfl<|wg 5 rfl<|w5<|wt rfl rfl
 ·exact wr rfl<|wg 5 rfl<|w5<|wt rfl rfl
 ·exact wr rfl<|wg 5 rfl<|w5<|wt rfl rfl
 ·exact wr rfl<|wg 5 rfl<|w5<|wt rfl rfl
 ·exact wr rfl<|wg 4 rfl<|w5<|wt rfl rfl
 ·exact wr rfl<|wg 4 rfl<|w5<|wt rfl rfl
 ·exact wr rfl<|wg 4 rfl<|w5<|wt rfl rfl
 ·exact wr rfl<|wg 4 rfl<|w5<|wt rfl rfl
 ·exact wr rfl<|wg 5 rfl<|w5<|wt rfl rfl
 ·exact wr rfl<|wg 5 rfl<|w5<|wt rfl rfl
 ·exact wr rfl<|wg 5 rfl<|w5<|wt rfl rfl
 ·exact wr rfl<|wg 5 rfl<|w5<|wt rfl rfl
 ·exact wr rfl<|wg 5 rfl<|w5<|wt rfl rfl
 ·exact wr rfl<|wg 5 rfl<|w5<|wt rfl rfl
 ·exact wr rfl<|wg 5 rfl<|w5<|wt rfl rfl
 ·exact wr rfl<|wg 5 rfl<|w5<|wt rfl rfl
 ·exact wr rfl<|wg 5 rfl<|w5<|wt rfl rfl
 ·exact wr rfl<|wg 5 rfl<|w5<|wt rfl rfl
 ·exact wr rfl<|wg 5 rfl<|w5<|wt rfl rfl
 ·exact wr rfl<|wg 5 rfl<|w5<|wt rfl rfl
 ·exact wr rfl<|wg 5 rfl<|w5<|wt rfl rfl
 ·exact wr rfl<|wg 5 rfl<|w5<|wt rfl rfl
 ·exact wr rfl<|wg 5 rfl<|w5<|wt rfl rfl
def fo(k:Nat):Bool×Bool×Nat×Nat×Bool×Bool:=match k with
 |1=>(true,false,1,1,false,false)
 |2=>(true,false,2,2,false,false)
 |3=>(true,false,1,1,false,false)
 |4=>(false,false,1,1,true,true)
 |5=>(false,false,1,1,true,false)
 |6=>(true,true,0,4,false,false)
 |7=>(false,true,1,5,false,false)
 |8=>(false,false,2,2,false,true)
 |9=>(true,false,1,1,false,true)
 |_=>(false,false,0,0,false,false)
theorem bh1{k:Nat}(h1:1≤k)(h2:k≤10){P:Nat→Prop}(h:P 1∧P 2∧P 3∧P 4∧P 5∧P 6∧P 7∧P 8∧P 9∧P 10):P k:=by
 have:k=1∨k=2∨k=3∨k=4∨k=5∨k=6∨k=7∨k=8∨k=9∨k=10:=by omega
 obtain⟨a1,a2,a3,a4,a5,a6,a7,a8,a9,a10⟩:=h;rcases this with rfl|rfl|rfl|rfl|rfl|rfl|rfl|rfl|rfl|rfl<;>assumption
def foD(k:Nat):List D:=[.bool (fo k).1,.bool (fo k).2.1,iD (fo k).2.2.1,iD (fo k).2.2.2.1,.bool (fo k).2.2.2.2.1,.bool (fo k).2.2.2.2.2,.bool true]
theorem W1{k:Nat}(h1:1≤k)(h2:k≤10):Rn F X 19 0 [bD k] (·=foD k):=by
 refine bh1 h1 h2 (P:=fun k=>Rn F X 19 0 [bD k] (·=foD k)) ⟨?_,?_,?_,?_,?_,?_,?_,?_,?_,?_⟩
 ·exact wr rfl<|wg 11 rfl<|w7<|wt rfl rfl
 ·exact wr rfl<|wg 11 rfl<|w7<|wt rfl rfl
 ·exact wr rfl<|wg 11 rfl<|w7<|wt rfl rfl
 ·exact wr rfl<|wg 16 rfl<|w7<|wt rfl rfl
 ·exact wr rfl<|wg 17 rfl<|w7<|wt rfl rfl
 ·exact wr rfl<|wg 7 rfl<|w7<|wt rfl rfl
 ·exact wr rfl<|wg 15 rfl<|w7<|wt rfl rfl
 ·exact wr rfl<|wg 18 rfl<|w7<|wt rfl rfl
 ·exact wr rfl<|wg 10 rfl<|w7<|wt rfl rfl
 ·exact wr rfl<|wg 19 rfl<|w7<|wt rfl rfl
end
end Go.Proofs.YtaginlnifpbfgaaGreatDoor
