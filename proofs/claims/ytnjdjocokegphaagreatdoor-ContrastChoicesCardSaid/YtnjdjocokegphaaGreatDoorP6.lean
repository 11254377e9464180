/- What these functions answer. -/
import Derived.Test.YtnjdjocokegphaaGreatDoorP5
set_option linter.unusedVariables false
set_option linter.unusedSimpArgs false
set_option maxHeartbeats 4000000
set_option maxRecDepth 100000
namespace Go.Proofs.YtnjdjocokegphaaGreatDoor
open Go.Ex Go.RowKit Go.Fl
section
variable{X:Nat→List D→Option (List D)}
theorem bB2{op:Nat}(h:op≤34):Rn F X 80 0 [bD op] (fun o=>∃(tx us:aL) (p q:Int),o=[.str tx,.str us,.int .i64 p,.int .i64 q]∧0≤p∧p≤2∧0≤q∧q≤1):=by
 have:op=0∨op=1∨op=2∨op=3∨op=4∨op=5∨op=6∨op=7∨op=8∨op=9∨op=10∨op=11∨op=12∨op=13∨op=14∨op=15∨op=16∨op=17∨op=18∨op=19∨op=20∨op=21∨op=22∨op=23∨op=24∨op=25∨op=26∨op=27∨op=28∨op=29∨op=30∨op=31∨op=32∨op=33∨op=34:=by omega
 rcases this with rfl|rfl|rfl|rfl|rfl|rfl|rfl|rfl|rfl|rfl|rfl|rfl|rfl|rfl|rfl|rfl|rfl|rfl|rfl|rfl|rfl|rfl|rfl|rfl|rfl|rfl|rfl|rfl|rfl|rfl|rfl|rfl|rfl|rfl|rfl<;>
 exact Rn.of (fd:=TJ) (t:=ao1) rfl rfl rfl rfl (Wp.uI rfl rfl (Wp.s7 rfl rfl (Wp.aC rfl rfl rfl (wt rfl ⟨_,_,_,_,rfl,by omega,by omega,by omega,by omega⟩))))
def hD(hs:List Int):List (List D):=hs.map fun x=>[D.int .i64 x]
theorem JK{hs:List Int}{i:Nat}(h:i<hs.length):∃x,hs[i]? =some x∧(hD hs)[i]? =some [D.int .i64 x]:=⟨hs[i],xc h,by unfold hD;rw[xx,xc h];rfl⟩
theorem bF4(hs:List Int):(hD hs).length=hs.length:=xm _
theorem gD{hs:List Int}{i:Nat}{x:Int}(h:(hD hs)[i]? =some [D.int .i64 x]):aN (.eM 0 1 false) [.sl (hD hs),jD i]=some (.int .i64 x):=bi7 h rfl
theorem Cw{hs:List Int}{i:Nat}(h:i<hs.length){v:Int}:aN (.fO 0) [.sl (hD hs),jD i,.int .i64 v]=some (.sl (hD (hs.set i v))):=by
 obtain⟨x,_,hx⟩:=JK h;show((hD hs)[i]?).bind _=_;rw[hx];show some (D.sl ((hD hs).set i [D.int .i64 v]))=_;unfold hD;rw[List.map_set]
theorem fB{hs:List Int}{i:Nat}:aN .jF [.sl (hD hs),jD i]=some (.bool (decide (i<hs.length))):=fm (bF4 hs)
theorem rI{hs:List Int}{i:Nat}(aX:i<hs.length){v:Int}:Rn F X 82 0 [.sl (hD hs),jD i,.int .i64 v] (fun o=>∃b,o=[.bool b,.sl (hD (hs.set i v))]):=by
 obtain⟨x,hx,Bg⟩:=JK aX;refine wr rfl<|Wp.dB rfl fB aX<|wo rfl (gD Bg)<|Wp.aQ rfl af (fun h=> ?_) (fun h=> ?_)
 ·exact Wp.dB rfl fB aX<|wo rfl (Cw aX)<|wt rfl ⟨_,rfl⟩
 ·refine Wp.dB rfl fB aX<|wo rfl (gD Bg)<|Wp.aQ rfl au (fun h=> ?_) (fun h=> ?_)
  ·exact Wp.dB rfl fB aX<|wo rfl (Cw aX)<|wt rfl ⟨_,rfl⟩
  ·exact Wp.dB rfl fB aX<|wo rfl (Cw aX)<|wt rfl ⟨_,rfl⟩
theorem ba9{L:Nat}{r:List D}(hr:qD L r):Rn F X 81 0 r (fun o=>(∃t:Nat,o=[jD t,.bool true]∧t≤L)∨o=[iD 0,.bool false]):=by
 obtain⟨op,a,b,n,rfl,h1,h2,h3,h4,h5⟩:=hr;by_cases q1:op=27∨op=28
 ·obtain⟨k,rfl⟩:=Int.eq_ofNat_of_zero_le (h2 q1).1;have:=(h2 q1).2;refine wr rfl<|Wp.aQ rfl au (fun h=> ?_) (fun h=> ?_)
  ·exact wt rfl (.inl ⟨k,rfl,by omega⟩)
  ·exact wy rfl au<|wt rfl (.inl ⟨k,rfl,by omega⟩)
 ·by_cases q2:op=32∨op=33
  ·obtain⟨k,rfl⟩:=Int.eq_ofNat_of_zero_le (h3 q2).1;have:=(h3 q2).2;refine wr rfl<|wn rfl au<|wn rfl au<|Wp.aQ rfl au (fun h=> ?_) (fun h=> ?_)
   ·exact wt rfl (.inl ⟨k,rfl,by omega⟩)
   ·exact wy rfl au<|wt rfl (.inl ⟨k,rfl,by omega⟩)
  ·exact wr rfl<|wn rfl au<|wn rfl au<|wn rfl au<|wn rfl au<|wt rfl (.inr rfl)
theorem cf5{n:Nat}(h:n≤100000):aN (.j6 1 8) [jD n,jD n,.int .i64 0]=some (.sl (List.replicate n [D.int .i64 0])):=by
 show(if _ then _ else none)=_;rw[if_pos ⟨rfl,xk _,by simp[lj];omega⟩]
theorem Wp.two{f j i:Nat}{us:List xM}{t t' e':DT}{ds env:List D}{x:D}{Q:List D→Prop}(h1:aW (bQ (lk env)) us=some ds)(h2:Rn F X j 0 ds (fun o=>∃b,o=[.bool b,x]))(h3:x.cell=true)(hT:Wp F X i t (env++[.bool true,x]) Q)(hF:Wp F X i t' (env++[.bool false,x]) Q):Wp F X i (.call f j us [tt,no] t (.call f j us [ff,no] t' e')) env Q:=by
 obtain⟨_,ho,b,rfl⟩:=h2;cases b
 ·refine Wp.LH h1 ⟨_,ho,rfl⟩ rfl (Wp.AD h1 ⟨_,ho,rfl⟩ ?_ hF);show(true&& (x.cell&&true))=true;rw[h3];rfl
 ·refine Wp.AD h1 ⟨_,ho,rfl⟩ ?_ hT;show(true&& (x.cell&&true))=true;rw[h3];rfl
def HQ(o:List D):Prop:=∃(t:Int) (b:Bool),o=[.int .i64 t,.bool b]
theorem bB8{a b:Int}:aN .mx [.int .i64 a,.int .i64 b]=some (.int .i64 (if a<b then b else a)):=rfl
theorem xZ{a b c:Int}:aN .mx [.int .i64 a,.int .i64 b,.int .i64 c]=some (.int .i64 (if(if a<b then b else a)<c then c else(if a<b then b else a))):=rfl
theorem JI{hs:List Int}{m:Int}{i:Nat}{v:Int}(h:∀x∈hs,-1≤x∧x≤m)(hv: -1≤v∧v≤m):∀x∈hs.set i v,-1≤x∧x≤m:=fun x hx=>by
 rcases List.mem_or_eq_of_mem_set hx with hx|rfl
 ·exact h x hx
 ·exact hv
theorem rL{hs:List Int}{m m':Int}(h:∀x∈hs,-1≤x∧x≤m)(hm:m≤m'):∀x∈hs,-1≤x∧x≤m':=fun x hx=>by have:=h x hx;omega
theorem aU3{code:List (List D)}(hc:fM code)(hl:code.length≤50000):∀(f i:Nat),i+f=code.length→∀(hs:List Int) (Bb:Int),hs.length=code.length+1→(∀x∈hs,-1≤x∧x≤i)→Rn F X 83 2 [.sl code,.int .i64 Bb,jD code.length,jD i,.sl (hD hs)] HQ:=by
 intro f
 induction f with
 |zero=>
  intro i hi hs Bb bF hx;obtain rfl:i=code.length:=by omega
  obtain⟨x,_,Bg⟩:=JK (hs:=hs) (i:=code.length) (by omega);refine wr rfl<|wn rfl af<|wo rfl bl<|wy rfl fB<|wo rfl (gD Bg)<|Wp.aQ rfl Fm (fun h=> ?_) (fun h=> ?_)
  ·exact wt rfl ⟨_,_,rfl⟩
  ·exact wt rfl ⟨_,_,rfl⟩
 |succ f ih=>
  intro i hi hs Bb bF hx;have oB:i<code.length:=by omega
  obtain⟨x,nL,Bg⟩:=JK (hs:=hs) (i:=i) (by omega);have Ux:=hx x (xu nL);have fI:=hc code[i] (List.getElem_mem oB);have aq:code[i]? =some code[i]:=xc oB;have ht:=ba9 (X:=X) fI;obtain⟨op,a,b,n,e,h1,h2,h3,h4,h5⟩:=fI;rw[e] at aq ht;have aG9:=bB2 (X:=X) h1;obtain⟨y,hy,hyx⟩:∃y:Int,(if x<0 then 0 else x)=y∧0≤y∧y≤i:=⟨_,rfl,by split<;>omega⟩;have eJ:∀z∈hs.set i y,-1≤z∧z≤i:=JI hx (by omega);have dM:(hs.set i y).length=code.length+1:=by rw[xt];exact bF
  have iZ:(hD (hs.set i y))[i]? =some [D.int .i64 y]:=by unfold hD;rw[xx,List.getElem?_set_self (by omega)];rfl
  have hm:aN .mx [.int .i64 x,.int .i64 0]=some (.int .i64 y):=by rw[bB8,hy]
  have dh:∀(mb:List Int) (Bb:Int),mb.length=code.length+1→(∀z∈mb,-1≤z∧z≤((i+1:Nat):Int))→Rn F X 83 2 [.sl code,.int .i64 Bb,jD code.length,jD (i+1),.sl (hD mb)] HQ:=fun mb Bb h1 h2=>ih (i+1) (by omega) mb Bb h1 h2
  have ov:∀(v:Int) (k:Nat),-1≤v∧v≤((i+1:Nat):Int)→(∀z∈(hs.set i y).set k v,-1≤z∧z≤((i+1:Nat):Int)):=fun v k hv=>JI (rL eJ (by omega)) hv
  have uq:∀(v:Int) (k k':Nat),-1≤v∧v≤((i+1:Nat):Int)→(∀z∈((hs.set i y).set k v).set k' v,-1≤z∧z≤((i+1:Nat):Int)):=fun v k k' hv=>JI (ov v k hv) hv
  obtain⟨_,ho,hq⟩:=ht;rcases hq with⟨t,rfl,htL⟩|rfl
  ·have s6:Rn F X 81 0 [bD op,.int .i64 a,.int .i64 b,.int .i64 n] (·=[jD t,.bool true]):=⟨_,ho,rfl⟩;refine wr rfl<|wy rfl af<|wo rfl (aA aq rfl)<|wg 1 rfl<|mK<|wy rfl fB<|wo rfl (gD Bg)<|wo rfl hm<|wy rfl fB<|wo rfl (Cw (by omega))<|wg 1 rfl<|wx rfl aG9 fun|_,⟨tx,us,pp,qq,rfl,p0,p1,r0,r1⟩=>⟨rfl,?_⟩
   refine fK<|Wp.aQ rfl au (fun h=> ?_) (fun h=> ?_)
   ·refine wo rfl oI<|wy rfl fB<|wo rfl (gD iZ)<|Wp.aQ rfl af (fun h=> ?_) (fun h=> ?_)
    ·exact wt rfl ⟨_,_,rfl⟩
    ·refine wn rfl au<|wy rfl fB<|wo rfl (gD iZ)<|wo rfl (rK (by omega) (by omega))<|eH<|wo rfl oI<|wy rfl fB<|wo rfl (gD iZ)<|wo rfl xZ<|wy rfl ew<|wy rfl ew<|wo rfl oA<|qT<|wg 1 rfl<|Wp.two rfl (rI (by first|omega|(rw[xt];omega))) rfl ?_ ?_
     ·refine wl rfl s6 rfl<|wg 1 rfl<|Wp.two rfl (rI (by first|omega|(rw[xt];omega))) rfl ?_ ?_
      ·exact wo rfl oA<|gP<|Wp.jump rfl (dh _ _ (by first|exact dM|(rw[xt];exact dM)|(rw[xt,xt];exact dM)) (by first|exact rL eJ (by omega)|exact ov _ _ (by omega)|exact uq _ _ _ (by omega)))
      ·exact wt rfl ⟨_,_,rfl⟩
     ·exact wt rfl ⟨_,_,rfl⟩
   ·refine Wp.aQ rfl au (fun h=> ?_) (fun h=> ?_)
    ·refine wo rfl oI<|wy rfl fB<|wo rfl (gD iZ)<|Wp.aQ rfl af (fun h=> ?_) (fun h=> ?_)
     ·exact wt rfl ⟨_,_,rfl⟩
     ·refine wn rfl au<|wy rfl fB<|wo rfl (gD iZ)<|wo rfl (rK (by omega) (by omega))<|eH<|wo rfl oI<|wy rfl fB<|wo rfl (gD iZ)<|wo rfl xZ<|wy rfl ew<|wy rfl ew<|wo rfl oA<|qT<|wg 1 rfl<|Wp.two rfl (rI (by first|omega|(rw[xt];omega))) rfl ?_ ?_
      ·refine wl rfl s6 rfl<|wg 1 rfl<|Wp.two rfl (rI (by first|omega|(rw[xt];omega))) rfl ?_ ?_
       ·exact wo rfl oA<|gP<|Wp.jump rfl (dh _ _ (by first|exact dM|(rw[xt];exact dM)|(rw[xt,xt];exact dM)) (by first|exact rL eJ (by omega)|exact ov _ _ (by omega)|exact uq _ _ _ (by omega)))
       ·exact wt rfl ⟨_,_,rfl⟩
      ·exact wt rfl ⟨_,_,rfl⟩
    ·refine wy rfl fB<|wo rfl (gD iZ)<|Wp.aQ rfl af (fun h=> ?_) (fun h=> ?_)
     ·exact wt rfl ⟨_,_,rfl⟩
     ·refine Wp.aQ rfl au (fun h=> ?_) (fun h=> ?_)
      ·refine wy rfl fB<|wo rfl (gD iZ)<|Wp.aQ rfl ew (fun h=> ?_) (fun h=> ?_)
       ·exact wt rfl ⟨_,_,rfl⟩
       ·refine wy rfl fB<|wo rfl (gD iZ)<|wo rfl (rK (by omega) (by omega))<|eH<|wo rfl oI<|wy rfl fB<|wo rfl (gD iZ)<|wo rfl xZ<|wy rfl ew<|wn rfl ew<|wl rfl s6 rfl<|mJ<|wg 1 rfl<|Wp.two rfl (rI (by first|omega|(rw[xt];omega))) rfl ?_ ?_
        ·exact wo rfl oA<|Wp.jump rfl (dh _ _ (by first|exact dM|(rw[xt];exact dM)|(rw[xt,xt];exact dM)) (by first|exact rL eJ (by omega)|exact ov _ _ (by omega)|exact uq _ _ _ (by omega)))
        ·exact wt rfl ⟨_,_,rfl⟩
      ·refine wy rfl fB<|wo rfl (gD iZ)<|wo rfl (rK (by omega) (by omega))<|wo rfl oI<|eH<|wy rfl fB<|wo rfl (gD iZ)<|wo rfl xZ<|Wp.aQ rfl ew (fun h=> ?_) (fun h=> ?_)
       ·refine wy rfl ew<|wo rfl oA<|wg 1 rfl<|Wp.two rfl (rI (by first|omega|(rw[xt];omega))) rfl ?_ ?_
        ·refine wg 1 rfl<|mJ<|wL rfl s6 rfl<|wg 1 rfl<|Wp.two rfl (rI (by first|omega|(rw[xt];omega))) rfl ?_ ?_
         ·exact wo rfl oA<|Wp.jump rfl (dh _ _ (by first|exact dM|(rw[xt];exact dM)|(rw[xt,xt];exact dM)) (by first|exact rL eJ (by omega)|exact ov _ _ (by omega)|exact uq _ _ _ (by omega)))
         ·exact wt rfl ⟨_,_,rfl⟩
        ·exact wt rfl ⟨_,_,rfl⟩
       ·refine wl rfl s6 rfl<|wg 1 rfl<|Wp.two rfl (rI (by first|omega|(rw[xt];omega))) rfl ?_ ?_
        ·exact wo rfl oA<|mI<|Wp.jump rfl (dh _ _ (by first|exact dM|(rw[xt];exact dM)|(rw[xt,xt];exact dM)) (by first|exact rL eJ (by omega)|exact ov _ _ (by omega)|exact uq _ _ _ (by omega)))
        ·exact wt rfl ⟨_,_,rfl⟩
  ·have s6:Rn F X 81 0 [bD op,.int .i64 a,.int .i64 b,.int .i64 n] (·=[iD 0,.bool false]):=⟨_,ho,rfl⟩;refine wr rfl<|wy rfl af<|wo rfl (aA aq rfl)<|wg 1 rfl<|mK<|wy rfl fB<|wo rfl (gD Bg)<|wo rfl hm<|wy rfl fB<|wo rfl (Cw (by omega))<|wg 1 rfl<|wx rfl aG9 fun|_,⟨tx,us,pp,qq,rfl,p0,p1,r0,r1⟩=>⟨rfl,?_⟩
   refine fK<|Wp.aQ rfl au (fun h=> ?_) (fun h=> ?_)
   ·refine wo rfl oI<|wy rfl fB<|wo rfl (gD iZ)<|Wp.aQ rfl af (fun h=> ?_) (fun h=> ?_)
    ·exact wt rfl ⟨_,_,rfl⟩
    ·refine wn rfl au<|wy rfl fB<|wo rfl (gD iZ)<|wo rfl (rK (by omega) (by omega))<|eH<|wo rfl oI<|wy rfl fB<|wo rfl (gD iZ)<|wo rfl xZ<|wy rfl ew<|wy rfl ew<|wo rfl oA<|qT<|wg 1 rfl<|Wp.two rfl (rI (by first|omega|(rw[xt];omega))) rfl ?_ ?_
     ·exact wl rfl s6 rfl<|wo rfl oA<|Wp.jump rfl (dh _ _ (by first|exact dM|(rw[xt];exact dM)|(rw[xt,xt];exact dM)) (by first|exact rL eJ (by omega)|exact ov _ _ (by omega)|exact uq _ _ _ (by omega)))
     ·exact wt rfl ⟨_,_,rfl⟩
   ·refine Wp.aQ rfl au (fun h=> ?_) (fun h=> ?_)
    ·refine wo rfl oI<|wy rfl fB<|wo rfl (gD iZ)<|Wp.aQ rfl af (fun h=> ?_) (fun h=> ?_)
     ·exact wt rfl ⟨_,_,rfl⟩
     ·refine wn rfl au<|wy rfl fB<|wo rfl (gD iZ)<|wo rfl (rK (by omega) (by omega))<|eH<|wo rfl oI<|wy rfl fB<|wo rfl (gD iZ)<|wo rfl xZ<|wy rfl ew<|wy rfl ew<|wo rfl oA<|qT<|wg 1 rfl<|Wp.two rfl (rI (by first|omega|(rw[xt];omega))) rfl ?_ ?_
      ·exact wl rfl s6 rfl<|wo rfl oA<|Wp.jump rfl (dh _ _ (by first|exact dM|(rw[xt];exact dM)|(rw[xt,xt];exact dM)) (by first|exact rL eJ (by omega)|exact ov _ _ (by omega)|exact uq _ _ _ (by omega)))
      ·exact wt rfl ⟨_,_,rfl⟩
    ·refine wy rfl fB<|wo rfl (gD iZ)<|Wp.aQ rfl af (fun h=> ?_) (fun h=> ?_)
     ·exact wt rfl ⟨_,_,rfl⟩
     ·refine Wp.aQ rfl au (fun h=> ?_) (fun h=> ?_)
      ·refine wy rfl fB<|wo rfl (gD iZ)<|Wp.aQ rfl ew (fun h=> ?_) (fun h=> ?_)
       ·exact wt rfl ⟨_,_,rfl⟩
       ·exact wy rfl fB<|wo rfl (gD iZ)<|wo rfl (rK (by omega) (by omega))<|eH<|wo rfl oI<|wy rfl fB<|wo rfl (gD iZ)<|wo rfl xZ<|wy rfl ew<|wn rfl ew<|wl rfl s6 rfl<|mJ<|wo rfl oA<|Wp.jump rfl (dh _ _ (by first|exact dM|(rw[xt];exact dM)|(rw[xt,xt];exact dM)) (by first|exact rL eJ (by omega)|exact ov _ _ (by omega)|exact uq _ _ _ (by omega)))
      ·refine wy rfl fB<|wo rfl (gD iZ)<|wo rfl (rK (by omega) (by omega))<|wo rfl oI<|eH<|wy rfl fB<|wo rfl (gD iZ)<|wo rfl xZ<|Wp.aQ rfl ew (fun h=> ?_) (fun h=> ?_)
       ·refine wy rfl ew<|wo rfl oA<|wg 1 rfl<|Wp.two rfl (rI (by first|omega|(rw[xt];omega))) rfl ?_ ?_
        ·exact wg 1 rfl<|mJ<|wL rfl s6 rfl<|wo rfl oA<|Wp.jump rfl (dh _ _ (by first|exact dM|(rw[xt];exact dM)|(rw[xt,xt];exact dM)) (by first|exact rL eJ (by omega)|exact ov _ _ (by omega)|exact uq _ _ _ (by omega)))
        ·exact wt rfl ⟨_,_,rfl⟩
       ·exact wl rfl s6 rfl<|wo rfl oA<|mJ<|Wp.jump rfl (dh _ _ (by first|exact dM|(rw[xt];exact dM)|(rw[xt,xt];exact dM)) (by first|exact rL eJ (by omega)|exact ov _ _ (by omega)|exact uq _ _ _ (by omega)))
theorem aY8{code:List (List D)}(hc:fM code)(hl:code.length≤50000):Rn F X 83 0 [.sl code] HQ:=by
 have loop:∀(f i:Nat),i+f=code.length+1→∀(hs:List Int),hs.length=code.length+1→(∀x∈hs,-1≤x∧x≤0)→Rn F X 83 1 [.sl code,jD (code.length+1),jD i,.sl (hD hs)] HQ:=by
  intro f
  induction f with
  |zero=>
   intro i hi hs h1 h2;exact wr rfl<|wn rfl af<|wo rfl bl<|Wp.jump rfl (aU3 hc hl code.length 0 (by omega) hs 0 h1 h2)
  |succ f ih=>
   intro i hi hs h1 h2;have next:=ih (i+1) (by omega) (hs.set i (-1)) (by rw[xt];exact h1) (JI h2 (by omega));exact wr rfl<|wy rfl af<|wy rfl fB<|wo rfl (Cw (by omega))<|wo rfl oA<|wj next
 have e:hD (List.replicate (code.length+1) 0)=List.replicate (code.length+1) [D.int .i64 0]:=by unfold hD;rw[List.map_replicate]
 have h0:=loop (code.length+1) 0 (by omega) (List.replicate (code.length+1) 0) (by simp) (fun x hx=>by have:=List.eq_of_mem_replicate hx;omega);rw[e] at h0;exact wr rfl<|wo rfl bl<|wo rfl oA<|wo rfl (cf5 (by omega))<|wo rfl (az (List.length_replicate))<|w5<|wj h0
end
structure Un where
 n:Nat
 t:Int
 c:List (List D)
abbrev uD(u:Un):List D:=[jD u.n,.int .i64 u.t,.sl u.c]
section
variable{X:Nat→List D→Option (List D)}{ar:List (List Nat)}{f:dK}{hss:List (List aL)}{i:Nat}{c:Cm}{al:List Nat}{ints tables:Nat}
structure PO (f:dK) (hss:List (List aL)) (i:Nat) (p:Cp):Prop where
 f:p.f=f
 hs:p.hs=hss
 own:p.own=i
 v:p.vars.length≤1000
 t:p.tables.length≤1000
 fl:p.flags.length≤1000
def UQ(f:dK)(hss:List (List aL))(i:Nat)(o:List D):Prop:=∃u p' eW,o=uD u++gm p' eW∧PO f hss i p'
theorem Pa(hf:gZ ar f)(hh:hss.length=ar.length)(nO:∀l∈hss,l.length≤1000)(bm:ar[i]? =some al)(i3:ints≤3)(t1:tables≤1){h:Hn}{k:Nat}(ho:qR ints tables f.flags.length i ar al k h){p:Cp}(hp:PO f hss i p){code:List (List D)}:Rn F X 78 0 (gm p code++h.s) (UQ f hss i):=by
 obtain⟨m,hm,lK,hb⟩:=ho.lH;have cA:=hf.uK;have eK:=(cA al (xu bm)).2.2 m (xu hm);have uv:=ho.n;have hn:=hf.n;obtain⟨pf,pQ,own,vars,Pb,flags,params⟩:=p;obtain⟨e1,e2,e3,v1,v2,v3⟩:=hp;simp only at e1 e2 e3 v1 v2 v3;subst e1;subst e2;subst e3;obtain⟨h1,h2,h3⟩:=h;simp only at lK hb uv;have gi:h2.length=m:=by rw[lK];simp[bi]
 have fX:(strs h2).length=h2.length:=xm _;have Eo:TY ar ⟨pf,pQ,own,vars,Pb,flags,h2⟩:=⟨⟨v1,v2,v3,by show h2.length≤1000;omega⟩,hf,hh,nO,by show own<pQ.length;rw[hh];exact jB bm⟩;have c1:=bm9 (X:=X) Eo (w:=⟨⟨ints,tables,pf.flags.length,m⟩,ar,own⟩) ⟨⟨i3,t1,hf.flags.1,eK⟩,hn.2.2,fun l h=>(cA l h).2⟩ rfl 12 h3 4 uv (xk _) hb [] (fun r h=>by cases h) (by simp;omega);refine wr rfl<|kf<|wg 1 rfl<|wx rfl c1 fun|_,⟨bk,rfl,bY,q1,q2⟩=>⟨rfl,?_⟩
 refine qT<|wg 1 rfl ?_;obtain⟨_,hq,t,b,rfl⟩:=aY8 (X:=X) bY (by simp at q2;omega);have c2:Rn F X 83 0 [.sl bk] (·=[.int .i64 t,.bool b]):=⟨_,hq,rfl⟩;cases b
 ·exact wL rfl c2 rfl<|wo rfl (az fX)<|wt rfl ⟨⟨h2.length,t,bk⟩,⟨pf,pQ,own,vars,Pb,flags,h2⟩,bk,rfl,rfl,rfl,rfl,v1,v2,v3⟩
 ·exact wL rfl c2 rfl<|wo rfl (az fX)<|wt rfl ⟨⟨h2.length,t,bk⟩,⟨pf,pQ,own,vars,Pb,flags,h2⟩,bk,rfl,rfl,rfl,rfl,v1,v2,v3⟩
theorem OZ{n k:Nat}(hn:n≤3)(hk:k<n):Rn F X 43 0 [.sl (strs (bi 104 n)),.str (nm 104 k)] (·=[iD k]):=(B3 (X:=X) (l:=bi 104 n) (by simp[bi];omega) (nm 104 k)).mono fun o h=>by
 rcases h with⟨_,j,rfl,hj,he⟩|⟨gH,_⟩
 ·rw[bi,xx] at he;have rn:j<n:=by simpa[bi] using hj
  rw[List.getElem?_range rn] at he;have he:nm 104 j=nm 104 k:=by simpa using he
  rw[(tB (by omega) (by omega) (by omega) (by omega) he).2]
 ·exact absurd (aa3 hk) gH
def CQ(f:dK)(hss:List (List aL))(QQ:List aL)(o:List D):Prop:=∃(us fs:List (List D)) (p':Cp) (eW:List (List D)),o=[.sl (strs QQ),.sl us,.sl fs]++gm p' eW∧p'.f=f∧p'.hs=hss
theorem cJ7(hf:gZ ar f)(hh:hss.length=ar.length)(nO:∀l∈hss,l.length≤1000)(bm:ar[i]? =some al)(i3:ints≤3)(t1:tables≤1)(hn:al.length=1)(cx:c.bt.length≤2)(iK:∀l∈c.bt,1≤l.length∧l.length≤al.length∧∀k h,l[k]? =some h→qR ints tables f.flags.length i ar al k h):
 ∀(ae pre:List (List Hn)),c.bt=pre++ae→∀(p:Cp) (code:List (List D)),PO f hss i p→∀(U G:List (List D)),U.length=pre.length→G.length=pre.length→∀(u0:Un) (g0:Bool),Rn F X 79 3 ([.sl (cr c.bt),jD c.bt.length,jD pre.length]++gm p code++[.sl (strs (bi 104 1)),.sl U,.sl G]++uD u0++[.bool g0]) (CQ f hss (bi 104 1)):=by
 intro ae
 induction ae with
 |nil=>
  intro pre aH p code hp U G hU hG u0 g0;rw[xj] at aH;have hp':pre.length=c.bt.length:=by rw[aH]
  exact wr rfl<|eH<|wn rfl af<|wt rfl ⟨U,G,p,code,rfl,hp.f,hp.hs⟩
 |cons v ae ih=>
  intro pre aH p code hp U G hU hG u0 g0;have aF:=bj aH;have aq:(cr c.bt)[pre.length]? =some [.sl (v.map Hn.s)]:=bR (f:=fun l:List Hn=>[D.sl (l.map Hn.s)]) aH;have hv:=iK v (by rw[aH];simp);have next:=ih (pre++[v]) (by rw[aH,aV]);rw[xa] at next;have lh:∀(dA bp:List Hn),v=bp++dA→∀(p:Cp) (code:List (List D)),PO f hss i p→∀(u0:Un) (g0:Bool),Rn F X 79 6 ([.sl (cr c.bt),jD c.bt.length,jD pre.length,.sl (v.map Hn.s),jD v.length,jD bp.length]++gm p code++[.sl (strs (bi 104 1)),.sl U,.sl G]++uD u0++[.bool g0]) (CQ f hss (bi 104 1)):=by
   intro dA
   induction dA with
   |nil=>
    intro bp bA p code hp u0 g0;rw[xj] at bA;subst bA;exact wr rfl<|v9<|wn rfl af<|wg 3 rfl<|wo rfl oP<|wg 2 rfl<|mI<|wg 1 rfl<|wo rfl oP<|wo rfl oA<|Wp.jump rfl (next p code hp _ _ (by simp[hU]) (by simp[hG]) u0 g0)
   |cons h dA lJ=>
    intro bp bA p code hp u0 g0;have vw:=bj bA;have gf:=bR (f:=Hn.s) bA;have fe:=lJ (bp++[h]) (by rw[bA,aV]);rw[xa] at fe;have ho:=hv.2.2 bp.length h (uX bA);have cU:=Pa (X:=X) hf hh nO bm i3 t1 ho hp (code:=code);have cI:=OZ (X:=X) (n:=1) (k:=bp.length) (by omega) (by omega);rw[←ho.name] at cI;obtain⟨h1,h2,h3⟩:=h;have hk:bp.length=0:=by omega
    simp only at cI;have e3:bp.length+[(⟨h1,h2,h3⟩:Hn)].length=bp.length+1:=rfl;rw[e3] at fe;generalize bp.length=k at*;rcases hk with rfl
    ·refine wr rfl<|v9<|wy rfl af<|wo rfl (aA gf rfl)<|wg 1 rfl<|mI<|wl rfl cI rfl<|wg 1 rfl<|wx rfl cU fun|_,⟨u,p2,bk,rfl,bf⟩=>⟨rfl,?_⟩
     dsimp only [dS,Ex.r,St.r,List.cons_append,List.nil_append,jT,jS,jR,jQ,jP,Hn.s,gm];exact wo rfl oA<|wj (fe p2 bk bf u true)
  exact wr rfl<|eH<|wy rfl af<|wo rfl (aA aq rfl)<|wg 1 rfl<|om<|wo rfl (az (bW _ _))<|wj (lh v [] rfl p code hp u0 g0)
theorem cJ6(hf:gZ ar f)(hh:hss.length=ar.length)(nO:∀l∈hss,l.length≤1000)(bm:ar[i]? =some al)(i3:ints≤3)(t1:tables≤1)(hn:al.length=2)(cx:c.bt.length≤2)(iK:∀l∈c.bt,1≤l.length∧l.length≤al.length∧∀k h,l[k]? =some h→qR ints tables f.flags.length i ar al k h):
 ∀(ae pre:List (List Hn)),c.bt=pre++ae→∀(p:Cp) (code:List (List D)),PO f hss i p→∀(U G:List (List D)),U.length=pre.length→G.length=pre.length→∀(u0 u1:Un) (g0 g1:Bool),Rn F X 79 4 ([.sl (cr c.bt),jD c.bt.length,jD pre.length]++gm p code++[.sl (strs (bi 104 2)),.sl U,.sl G]++uD u0++uD u1++[.bool g0,.bool g1]) (CQ f hss (bi 104 2)):=by
 intro ae
 induction ae with
 |nil=>
  intro pre aH p code hp U G hU hG u0 u1 g0 g1;rw[xj] at aH;have hp':pre.length=c.bt.length:=by rw[aH]
  exact wr rfl<|qT<|wn rfl af<|wt rfl ⟨U,G,p,code,rfl,hp.f,hp.hs⟩
 |cons v ae ih=>
  intro pre aH p code hp U G hU hG u0 u1 g0 g1;have aF:=bj aH;have aq:(cr c.bt)[pre.length]? =some [.sl (v.map Hn.s)]:=bR (f:=fun l:List Hn=>[D.sl (l.map Hn.s)]) aH;have hv:=iK v (by rw[aH];simp);have next:=ih (pre++[v]) (by rw[aH,aV]);rw[xa] at next;have lh:∀(dA bp:List Hn),v=bp++dA→∀(p:Cp) (code:List (List D)),PO f hss i p→∀(u0 u1:Un) (g0 g1:Bool),Rn F X 79 7 ([.sl (cr c.bt),jD c.bt.length,jD pre.length,.sl (v.map Hn.s),jD v.length,jD bp.length]++gm p code++[.sl (strs (bi 104 2)),.sl U,.sl G]++uD u0++uD u1++[.bool g0,.bool g1]) (CQ f hss (bi 104 2)):=by
   intro dA
   induction dA with
   |nil=>
    intro bp bA p code hp u0 u1 g0 g1;rw[xj] at bA;subst bA;exact wr rfl<|mI<|wn rfl af<|wg 3 rfl<|wo rfl oP<|wg 2 rfl<|gP<|wg 1 rfl<|wo rfl oP<|wo rfl oA<|Wp.jump rfl (next p code hp _ _ (by simp[hU]) (by simp[hG]) u0 u1 g0 g1)
   |cons h dA lJ=>
    intro bp bA p code hp u0 u1 g0 g1;have vw:=bj bA;have gf:=bR (f:=Hn.s) bA;have fe:=lJ (bp++[h]) (by rw[bA,aV]);rw[xa] at fe;have ho:=hv.2.2 bp.length h (uX bA);have cU:=Pa (X:=X) hf hh nO bm i3 t1 ho hp (code:=code);have cI:=OZ (X:=X) (n:=2) (k:=bp.length) (by omega) (by omega);rw[←ho.name] at cI;obtain⟨h1,h2,h3⟩:=h;have hk:bp.length=0∨bp.length=1:=by omega
    simp only at cI;have e3:bp.length+[(⟨h1,h2,h3⟩:Hn)].length=bp.length+1:=rfl;rw[e3] at fe;generalize bp.length=k at*;rcases hk with rfl|rfl
    ·refine wr rfl<|mI<|wy rfl af<|wo rfl (aA gf rfl)<|wg 1 rfl<|gP<|wl rfl cI rfl<|wg 1 rfl<|wx rfl cU fun|_,⟨u,p2,bk,rfl,bf⟩=>⟨rfl,?_⟩
     exact Hz<|wo rfl oA<|wj (fe p2 bk bf u u1 true g1)
    ·refine wr rfl<|mI<|wy rfl af<|wo rfl (aA gf rfl)<|wg 1 rfl<|gP<|wl rfl cI rfl<|wg 1 rfl<|wx rfl cU fun|_,⟨u,p2,bk,rfl,bf⟩=>⟨rfl,?_⟩
     exact Hz<|wo rfl oA<|wj (fe p2 bk bf u0 u g0 true)
  exact wr rfl<|qT<|wy rfl af<|wo rfl (aA aq rfl)<|wg 1 rfl<|io<|wo rfl (az (bW _ _))<|wj (lh v [] rfl p code hp u0 u1 g0 g1)
theorem cJ5(hf:gZ ar f)(hh:hss.length=ar.length)(nO:∀l∈hss,l.length≤1000)(bm:ar[i]? =some al)(i3:ints≤3)(t1:tables≤1)(hn:al.length=3)(cx:c.bt.length≤2)(iK:∀l∈c.bt,1≤l.length∧l.length≤al.length∧∀k h,l[k]? =some h→qR ints tables f.flags.length i ar al k h):
 ∀(ae pre:List (List Hn)),c.bt=pre++ae→∀(p:Cp) (code:List (List D)),PO f hss i p→∀(U G:List (List D)),U.length=pre.length→G.length=pre.length→∀(u0 u1 u2:Un) (g0 g1 g2:Bool),Rn F X 79 5 ([.sl (cr c.bt),jD c.bt.length,jD pre.length]++gm p code++[.sl (strs (bi 104 3)),.sl U,.sl G]++uD u0++uD u1++uD u2++[.bool g0,.bool g1,.bool g2]) (CQ f hss (bi 104 3)):=by
 intro ae
 induction ae with
 |nil=>
  intro pre aH p code hp U G hU hG u0 u1 u2 g0 g1 g2;rw[xj] at aH;have hp':pre.length=c.bt.length:=by rw[aH]
  exact wr rfl<|MV<|wn rfl af<|wt rfl ⟨U,G,p,code,rfl,hp.f,hp.hs⟩
 |cons v ae ih=>
  intro pre aH p code hp U G hU hG u0 u1 u2 g0 g1 g2;have aF:=bj aH;have aq:(cr c.bt)[pre.length]? =some [.sl (v.map Hn.s)]:=bR (f:=fun l:List Hn=>[D.sl (l.map Hn.s)]) aH;have hv:=iK v (by rw[aH];simp);have next:=ih (pre++[v]) (by rw[aH,aV]);rw[xa] at next;have lh:∀(dA bp:List Hn),v=bp++dA→∀(p:Cp) (code:List (List D)),PO f hss i p→∀(u0 u1 u2:Un) (g0 g1 g2:Bool),Rn F X 79 8 ([.sl (cr c.bt),jD c.bt.length,jD pre.length,.sl (v.map Hn.s),jD v.length,jD bp.length]++gm p code++[.sl (strs (bi 104 3)),.sl U,.sl G]++uD u0++uD u1++uD u2++[.bool g0,.bool g1,.bool g2]) (CQ f hss (bi 104 3)):=by
   intro dA
   induction dA with
   |nil=>
    intro bp bA p code hp u0 u1 u2 g0 g1 g2;rw[xj] at bA;subst bA;exact wr rfl<|gP<|wn rfl af<|wg 3 rfl<|wo rfl oP<|wg 2 rfl<|iW<|wg 1 rfl<|wo rfl oP<|wo rfl oA<|Wp.jump rfl (next p code hp _ _ (by simp[hU]) (by simp[hG]) u0 u1 u2 g0 g1 g2)
   |cons h dA lJ=>
    intro bp bA p code hp u0 u1 u2 g0 g1 g2;have vw:=bj bA;have gf:=bR (f:=Hn.s) bA;have fe:=lJ (bp++[h]) (by rw[bA,aV]);rw[xa] at fe;have ho:=hv.2.2 bp.length h (uX bA);have cU:=Pa (X:=X) hf hh nO bm i3 t1 ho hp (code:=code);have cI:=OZ (X:=X) (n:=3) (k:=bp.length) (by omega) (by omega);rw[←ho.name] at cI;obtain⟨h1,h2,h3⟩:=h;have hk:bp.length=0∨bp.length=1∨bp.length=2:=by omega
    simp only at cI;have e3:bp.length+[(⟨h1,h2,h3⟩:Hn)].length=bp.length+1:=rfl;rw[e3] at fe;generalize bp.length=k at*;rcases hk with rfl|rfl|rfl
    ·refine wr rfl<|gP<|wy rfl af<|wo rfl (aA gf rfl)<|wg 1 rfl<|iW<|wl rfl cI rfl<|wg 1 rfl<|wx rfl cU fun|_,⟨u,p2,bk,rfl,bf⟩=>⟨rfl,?_⟩
     exact A9<|wo rfl oA<|wj (fe p2 bk bf u u1 u2 true g1 g2)
    ·refine wr rfl<|gP<|wy rfl af<|wo rfl (aA gf rfl)<|wg 1 rfl<|iW<|wl rfl cI rfl<|wg 1 rfl<|wx rfl cU fun|_,⟨u,p2,bk,rfl,bf⟩=>⟨rfl,?_⟩
     exact A9<|wo rfl oA<|wj (fe p2 bk bf u0 u u2 g0 true g2)
    ·refine wr rfl<|gP<|wy rfl af<|wo rfl (aA gf rfl)<|wg 1 rfl<|iW<|wl rfl cI rfl<|wg 1 rfl<|wx rfl cU fun|_,⟨u,p2,bk,rfl,bf⟩=>⟨rfl,?_⟩
     exact A9<|wo rfl oA<|wj (fe p2 bk bf u0 u1 u g0 g1 true)
  exact wr rfl<|MV<|wy rfl af<|wo rfl (aA aq rfl)<|wg 1 rfl<|lF<|wo rfl (az (bW _ _))<|wj (lh v [] rfl p code hp u0 u1 u2 g0 g1 g2)
end
section
variable{X:Nat→List D→Option (List D)}{ar:List (List Nat)}{f:dK}{hss:List (List aL)}{i:Nat}{c:Cm}{al:List Nat}
abbrev sM(hss:List (List aL)):List (List D):=hss.map fun l=>[.sl (strs l)]
theorem Oy(l:List aL)(s:aL):strs l++[[.str s]]=strs (l++[s]):=by simp[strs]
theorem rH(l:List aL):(strs l).length=l.length:=xm _
theorem bm8(hf:gZ ar f)(hi:f.comps[i]? =some c)(bm:ar[i]? =some al)(hh:hss.length=ar.length)(nO:∀l∈hss,l.length≤1000)(ia:hss[i]? =some (bi 104 al.length)){p:Cp}(hpf:p.f=f)(ur:p.hs=hss){code:List (List D)}:Rn F X 79 0 (gm p code++[jD i]) (CQ f hss (bi 104 al.length)):=by
 have Eo:=hf.comps i c hi;obtain⟨ints,tables,N3,i1,i3,t1,yW,Lv,mN,cx,hvl,iK⟩:=Eo.rest;rw[bm] at yW;cases yW;have ww:=hf.n;have aI6:=hf.uK al (xu bm);have hvn:c.vars.length=ints+1+tables:=by rw[Lv];exact N8 _ _
 have bx:=hf.flags.1;have aq:(sM hss)[i]? =some [.sl (strs (bi 104 al.length))]:=by rw[xx,ia];rfl
 have hN:al.length=1∨al.length=2∨al.length=3:=by omega
 obtain⟨pf,pQ,own,pv,pt,pfl,params⟩:=p;simp only at hpf ur;subst hpf;subst ur;have fin:∀(va ta fa:List aL),va.length≤1000→ta.length≤1000→fa.length≤1000→Rn F X 79 2 [jD i,.sl (c.vars.map Vr.s),jD c.vars.length,jD c.vars.length,.str pf.name,.sl (pf.flags.map Fg.d),.sl (pf.links.map Lk.d),.sl (pf.comps.map Cm.s),.sl (sM pQ),.sl (strs va),.sl (strs ta),.sl (strs fa),.sl (strs params),.sl code,.str c.name,.sl (cr c.bt)] (CQ pf pQ (bi 104 al.length)):=by
  intro va ta fa q1 q2 q3;have Vm:PO pf pQ i ⟨pf,pQ,i,va,ta,fa,params⟩:=⟨rfl,rfl,rfl,q1,q2,q3⟩;rcases hN with hN|hN|hN
  ·have g:=cJ7 (X:=X) (c:=c) hf hh nO bm i3 t1 hN cx iK c.bt [] rfl _ code Vm [] [] rfl rfl ⟨0,0,[]⟩ false;rw[hN] at aq⊢;exact wr rfl<|wn rfl af<|wo rfl (aA aq rfl)<|wg 1 rfl<|Wp.DY rfl rfl rfl<|Wp.DY rfl rfl rfl<|wo rfl (az (xm _))<|wj g
  ·have g:=cJ6 (X:=X) (c:=c) hf hh nO bm i3 t1 hN cx iK c.bt [] rfl _ code Vm [] [] rfl rfl ⟨0,0,[]⟩ ⟨0,0,[]⟩ false false;rw[hN] at aq⊢;exact wr rfl<|wn rfl af<|wo rfl (aA aq rfl)<|wg 1 rfl<|Wp.T4 rfl rfl rfl<|Wp.DY rfl rfl rfl<|Wp.DY rfl rfl rfl<|wo rfl (az (xm _))<|wj g
  ·have g:=cJ5 (X:=X) (c:=c) hf hh nO bm i3 t1 hN cx iK c.bt [] rfl _ code Vm [] [] rfl rfl ⟨0,0,[]⟩ ⟨0,0,[]⟩ ⟨0,0,[]⟩ false false false;rw[hN] at aq⊢;exact wr rfl<|wn rfl af<|wo rfl (aA aq rfl)<|wg 1 rfl<|Wp.T4 rfl rfl rfl<|Wp.T4 rfl rfl rfl<|Wp.DY rfl rfl rfl<|Wp.DY rfl rfl rfl<|wo rfl (az (xm _))<|wj g
 have j5:∀(ae pre:List Vr),c.vars=pre++ae→∀(va ta fa:List aL),va.length≤pre.length→ta.length≤pre.length→fa.length≤1000→Rn F X 79 2 [jD i,.sl (c.vars.map Vr.s),jD c.vars.length,jD pre.length,.str pf.name,.sl (pf.flags.map Fg.d),.sl (pf.links.map Lk.d),.sl (pf.comps.map Cm.s),.sl (sM pQ),.sl (strs va),.sl (strs ta),.sl (strs fa),.sl (strs params),.sl code,.str c.name,.sl (cr c.bt)] (CQ pf pQ (bi 104 al.length)):=by
  intro ae
  induction ae with
  |nil=>
   intro pre aH va ta fa q1 q2 q3;rw[xj] at aH;rw[←aH] at q1 q2⊢;exact fin va ta fa (by omega) (by omega) q3
  |cons v ae ih=>
   intro pre aH va ta fa q1 q2 q3;have aF:=bj aH;have MC:=bR (f:=Vr.s) aH;have next:=ih (pre++[v]) (by rw[aH,aV]);rw[xa] at next;have e1:pre.length+[v].length=pre.length+1:=rfl;rw[e1] at next;obtain⟨v1,v2,v3⟩:=v;have nA:=next (va++[v1]) ta fa (by simp;omega) (by omega) q3;have nB:=next va (ta++[v1]) fa (by omega) (by simp;omega) q3;rw[←Oy] at nA nB;have la:=rH va;have lb:=rH ta;refine wr rfl<|wy rfl af<|wo rfl (aA MC rfl)<|wg 1 rfl<|jo<|Wp.aQ rfl au (fun h=> ?_) (fun h=> ?_)
   ·exact wg 2 rfl<|wo rfl oP<|wo rfl oA<|wj nB
   ·exact wg 2 rfl<|wo rfl oP<|wo rfl oA<|wj nA
 have Aw:∀(ae pre:List Fg),pf.flags=pre++ae→∀(fa:List aL),fa.length≤pre.length→Rn F X 79 1 [jD i,.sl (pf.flags.map Fg.d),jD pf.flags.length,jD pre.length,.str pf.name,.sl (pf.links.map Lk.d),.sl (pf.comps.map Cm.s),.sl (sM pQ),.sl (strs fa),.sl (strs params),.sl code,.str c.name,.sl (c.vars.map Vr.s),.sl (cr c.bt)] (CQ pf pQ (bi 104 al.length)):=by
  intro ae
  induction ae with
  |nil=>
   intro pre aH fa q1;rw[xj] at aH;have dF1:pre.length=pf.flags.length:=by rw[aH]
   have g:=j5 c.vars [] rfl [] [] fa (by simp) (by simp) (by omega);exact wr rfl<|wn rfl af<|wo rfl (az (xm _))<|wj g
  |cons v ae ih=>
   intro pre aH fa q1;have aF:=bj aH;have MC:=bR (f:=Fg.d) aH;have next:=ih (pre++[v]) (by rw[aH,aV]);rw[xa] at next;have e1:pre.length+[v].length=pre.length+1:=rfl;rw[e1] at next;obtain⟨v1,v2⟩:=v;have nA:=next (fa++[v1]) (by simp;omega);rw[←Oy] at nA;have la:=rH fa;cases v2
   ·exact wr rfl<|wy rfl af<|wo rfl (aA MC rfl)<|wg 2 rfl<|fK<|wg 2 rfl<|wo rfl oP<|wo rfl oA<|wj nA
   ·exact wr rfl<|wy rfl af<|wo rfl (aA MC rfl)<|wg 1 rfl<|fK<|wg 2 rfl<|wo rfl oP<|wo rfl oA<|wj nA
 have g:=Aw pf.flags [] rfl [] (by simp);have dj6:(pf.comps.map Cm.s)[i]? =some (Cm.s c):=by rw[xx,hi];rfl
 obtain⟨c1,c2,c3⟩:=c;exact wr rfl<|wo rfl (aA dj6 rfl)<|wg 1 rfl<|lG<|wo rfl (az (xm _))<|wj g
def LP(ar:List (List Nat))(rows:List (List D)):Prop:=rows.length=ar.length∧∀(i:Nat) (al:List Nat),ar[i]? =some al→∃us fs:List (List D),rows[i]? =some [D.sl (strs (bi 104 al.length)),D.sl us,D.sl fs]
def TZ(ar:List (List Nat))(o:List D):Prop:=∃rows,o=[.ptr [.sl rows] 0,iD 0]∧LP ar rows
theorem ba3(hX:lO X)(hI:wK X)(hf:gZ ar f):Rn F X 84 0 f.s (TZ ar):=by
 have k1:=O8 hX hf.ok;have k2:=aS9 hX hI hf;have hn:=hf.n
 let H:=fun(l:List (List Nat))=>l.map fun al=>bi 104 al.length
 have hH:∀l,(H l).length=l.length:=fun l=>xm _
 have hHl:∀l∈H ar,l.length≤1000:=fun l hl=>by
  obtain⟨al,ha,rfl⟩:=xJ.1 hl;have:=(hf.uK al ha).2.1;simp[bi];omega
 have c2:∀(k i:Nat),i+k=f.comps.length→∀(p:Cp) (code rows:List (List D)),p.f=f→p.hs=H ar→rows.length=i→(∀(j:Nat) (al:List Nat),j<i→ar[j]? =some al→∃us fs:List (List D),rows[j]? =some [D.sl (strs (bi 104 al.length)),D.sl us,D.sl fs])→Rn F X 84 2 ([jD f.comps.length,jD i]++gm p code++[.sl rows]) (TZ ar):=by
  intro k
  induction k with
  |zero=>
   intro i hi p code rows zh bf ep bK;exact wr rfl<|kf<|wn rfl af<|wg 1 rfl<|wt rfl ⟨rows,rfl,by omega,fun j al ha=>bK j al (by have:=jB ha;omega) ha⟩
  |succ k ih=>
   intro i hi p code rows zh bf ep bK;have oB:i<f.comps.length:=by omega
   have El:i<ar.length:=by omega
   have bm:ar[i]? =some ar[i]:=xc El;have cc:=bm8 (X:=X) hf (xc oB) bm (hss:=H ar) (hH ar) hHl (by show(ar.map _)[i]? =_;rw[xx,bm];rfl) zh bf (code:=code);have next:=ih (i+1) (by omega);refine wr rfl<|kf<|wy rfl af<|wg 1 rfl<|wx rfl cc fun|_,⟨us,fs,p2,bk,rfl,hq1,pR⟩=>⟨rfl,?_⟩
   refine mI<|wg 2 rfl<|wo rfl oP<|wo rfl oA<|Wp.jump rfl ?_;refine next p2 bk _ hq1 pR (by simp[ep]) (fun j al hj ha=> ?_);rcases Nat.lt_or_ge j i with aX|dX
   ·obtain⟨sD,fs',h'⟩:=bK j al aX ha;exact⟨sD,fs',by rw[xw (by omega)];exact h'⟩
   ·obtain rfl:j=i:=by omega
    rw[bm] at ha;cases ha;exact⟨us,fs,by rw[xq (by omega),ep,Nat.sub_self];rfl⟩
 have c1:∀(k i:Nat),i+k=f.comps.length→Rn F X 84 1 [.sl (f.comps.map Cm.s),jD f.comps.length,jD i,.str f.name,.sl (f.flags.map Fg.d),.sl (f.links.map Lk.d),.sl (sM (H (ar.take i)))] (TZ ar):=by
  intro k
  induction k with
  |zero=>
   intro i hi;have e:ar.take i=ar:=List.take_of_length_le (by omega);rw[e];have g:=c2 f.comps.length 0 (by omega) ⟨f,H ar,0,[],[],[],[]⟩ [] [] rfl rfl rfl (fun j al hj=>by omega);exact wr rfl<|wn rfl af<|wo rfl (az (xm _))<|wj g
  |succ k ih=>
   intro i hi;have oB:i<f.comps.length:=by omega
   have El:i<ar.length:=by omega
   have bm:ar[i]? =some ar[i]:=xc El;have uB:f.comps[i]? =some f.comps[i]:=xc oB;have cn:=bc9 (X:=X) (hf.comps i _ uB) bm (hf.uK _ (List.getElem_mem El)).2.1;have aq:(f.comps.map Cm.s)[i]? =some (Cm.s f.comps[i]):=by rw[xx,uB];rfl
   have next:=ih (i+1) (by omega);have e:sM (H (ar.take (i+1)))=sM (H (ar.take i))++[[.sl (strs (bi 104 ar[i].length))]]:=by
    rw[List.take_add_one,bm];show sM (H (ar.take i++[ar[i]]))=_;simp only [H,sM,List.map_append,List.map_cons,List.map_nil]
   rw[e] at next;have bF:(sM (H (ar.take i))).length=i:=by simp[H,sM];omega
   generalize f.comps[i]=c at aq cn;obtain⟨n1,n2,n3⟩:=c;exact wr rfl<|wy rfl af<|wo rfl (aA aq rfl)<|wg 1 rfl<|cW<|wl rfl cn rfl<|wg 2 rfl<|wo rfl oP<|wo rfl oA<|dC<|wj next
 have g:=c1 f.comps.length 0 (by omega);have k1:Rn F X 41 0 [.str f.name,.sl (f.flags.map Fg.d),.sl (f.links.map Lk.d),.sl (f.comps.map Cm.s)] (·=[iD 0]):=k1;have k2:Rn F X 58 0 [.str f.name,.sl (f.flags.map Fg.d),.sl (f.links.map Lk.d),.sl (f.comps.map Cm.s)] (·=[.str [],.str [],iD 0,iD 0]):=k2;show Rn F X 84 0 [.str f.name,.sl (f.flags.map Fg.d),.sl (f.links.map Lk.d),.sl (f.comps.map Cm.s)] _;exact wr rfl<|wl rfl k1 rfl<|wg 1 rfl<|wl rfl k2 rfl<|wg 1 rfl<|wo rfl (az (bW _ _))<|wj g
end
section
variable{X:Nat→List D→Option (List D)}
theorem Cx{n es bys:Nat}{zs:List D}(h:zs.length=es)(hn:n≤1000)(hb:bys≤1000):aN (.j6 es bys) (jD n::jD n::zs)=some (.sl (List.replicate n zs)):=by
 show(if _ then _ else none)=_;have:n*bys≤1000*1000:=Nat.mul_le_mul hn hb;rw[if_pos ⟨h,xk _,by simp[lj];omega⟩]
theorem Cv{rows:List (List D)}{i:Nat}{r ds:List D}(hr:rows[i]? =some r)(hl:r.length=ds.length):aN (.fO 0) (.sl rows::jD i::ds)=some (.sl (rows.set i ds)):=by
 show(rows[i]?).bind _=_;rw[hr];show(if 0+ds.length≤r.length then some (D.sl (rows.set i (r.take 0++ds++r.drop (0+ds.length)))) else none)=_;rw[if_pos (by omega),List.drop_of_length_le (by omega)];simp
def vD(l:List Hn):List D:=[D.sl (l.map Hn.s)]
theorem B7{pre:List (List D)}{a z:List D}{n:Nat}:(pre++List.replicate (n+1) z).set pre.length a=(pre++[a])++List.replicate n z:=by
 rw[List.set_append_right _ _ (xk _),Nat.sub_self,List.replicate_succ,List.set_cons_zero];simp
theorem Ce{pre:List (List D)}{z:List D}{n:Nat}:(pre++List.replicate (n+1) z)[pre.length]? =some z:=by
 rw[xq (xk _),Nat.sub_self,List.replicate_succ];rfl
theorem ao0{l:List Fl.Ex}(hl:l.length≤1000)(h:∀a∈l,Rn F X 90 0 (Ex.s a) (·=Ex.s a)):Rn F X 85 0 [.sl (l.map (Ex.s))] (·=[.sl (l.map (Ex.s))]):=by
 have loop:∀(ae pre:List Fl.Ex),l=pre++ae→Rn F X 85 1 [.sl (pre.map (Ex.s)++List.replicate ae.length [bD 0,.str [],iD 0,.sl []]),.sl (l.map (Ex.s)),jD l.length,jD pre.length] (·=[.sl (l.map (Ex.s))]):=by
  intro ae
  induction ae with
  |nil=>
   intro pre hp;rw[xj] at hp;subst hp;rw[show([]:List Fl.Ex).length=0 from rfl,List.replicate_zero,xj];exact wr rfl<|wn rfl af<|wt rfl rfl
  |cons a ae ih=>
   intro pre hp;have aF:=bj hp;have aq:=bR (f:=Ex.s) hp;have ha:=h a (by rw[hp];simp);have next:=ih (pre++[a]) (by rw[hp,aV]);have gi:(pre.map (Ex.s)).length=pre.length:=xm _;have bc:aN (.fO 0) (.sl (pre.map (Ex.s)++List.replicate (ae.length+1) [bD 0,.str [],iD 0,.sl []])::jD pre.length::Ex.s a)=some (.sl ((pre++[a]).map (Ex.s)++List.replicate ae.length [bD 0,.str [],iD 0,.sl []])):=by
    rw[←gi,Cv Ce (by cases a;rfl),B7,List.map_append];rfl
   have mS:aN .jF [.sl (pre.map (Ex.s)++List.replicate (ae.length+1) [bD 0,.str [],iD 0,.sl []]),jD pre.length]=some (.bool (decide (pre.length<l.length))):=fm (by simp;omega);rw[xa] at next;rw[show(a::ae).length=ae.length+1 from rfl];obtain⟨a1,a2,a3,a4⟩:=a;exact wr rfl<|wy rfl af<|wo rfl (aA aq rfl)<|wg 1 rfl<|w9<|wl rfl ha rfl<|jq<|wy rfl mS<|wo rfl bc<|wo rfl oA<|wj next
 have g:=loop l [] rfl;exact wr rfl<|wo rfl (az (xm _))<|wo rfl (Cx rfl hl (by omega))<|wo rfl (az (xm _))<|wj g
theorem cq3{l:List St}(hl:l.length≤1000)(h:∀a∈l,Rn F X 91 0 (St.s a) (·=St.s a)):Rn F X 86 0 [.sl (l.map (St.s))] (·=[.sl (l.map (St.s))]):=by
 have loop:∀(ae pre:List St),l=pre++ae→Rn F X 86 1 [.sl (pre.map (St.s)++List.replicate ae.length [bD 0,.str [],.str [],.sl [],.sl [],.sl []]),.sl (l.map (St.s)),jD l.length,jD pre.length] (·=[.sl (l.map (St.s))]):=by
  intro ae
  induction ae with
  |nil=>
   intro pre hp;rw[xj] at hp;subst hp;rw[show([]:List St).length=0 from rfl,List.replicate_zero,xj];exact wr rfl<|wn rfl af<|wt rfl rfl
  |cons a ae ih=>
   intro pre hp;have aF:=bj hp;have aq:=bR (f:=St.s) hp;have ha:=h a (by rw[hp];simp);have next:=ih (pre++[a]) (by rw[hp,aV]);have gi:(pre.map (St.s)).length=pre.length:=xm _;have bc:aN (.fO 0) (.sl (pre.map (St.s)++List.replicate (ae.length+1) [bD 0,.str [],.str [],.sl [],.sl [],.sl []])::jD pre.length::St.s a)=some (.sl ((pre++[a]).map (St.s)++List.replicate ae.length [bD 0,.str [],.str [],.sl [],.sl [],.sl []])):=by
    rw[←gi,Cv Ce (by cases a;rfl),B7,List.map_append];rfl
   have mS:aN .jF [.sl (pre.map (St.s)++List.replicate (ae.length+1) [bD 0,.str [],.str [],.sl [],.sl [],.sl []]),jD pre.length]=some (.bool (decide (pre.length<l.length))):=fm (by simp;omega);rw[xa] at next;rw[show(a::ae).length=ae.length+1 from rfl];obtain⟨a1,a2,a3,a4,a5,a6⟩:=a;exact wr rfl<|wy rfl af<|wo rfl (aA aq rfl)<|wg 1 rfl<|cW<|wl rfl ha rfl<|fK<|wy rfl mS<|wo rfl bc<|wo rfl oA<|wj next
 have g:=loop l [] rfl;exact wr rfl<|wo rfl (az (xm _))<|wo rfl (Cx rfl hl (by omega))<|wo rfl (az (xm _))<|wj g
theorem cq4{l:List Hn}(hl:l.length≤1000)(h:∀a∈l,Rn F X 92 0 (Hn.s a) (·=Hn.s a)):Rn F X 87 0 [.sl (l.map (Hn.s))] (·=[.sl (l.map (Hn.s))]):=by
 have loop:∀(ae pre:List Hn),l=pre++ae→Rn F X 87 1 [.sl (pre.map (Hn.s)++List.replicate ae.length [.str [],.sl [],.sl []]),.sl (l.map (Hn.s)),jD l.length,jD pre.length] (·=[.sl (l.map (Hn.s))]):=by
  intro ae
  induction ae with
  |nil=>
   intro pre hp;rw[xj] at hp;subst hp;rw[show([]:List Hn).length=0 from rfl,List.replicate_zero,xj];exact wr rfl<|wn rfl af<|wt rfl rfl
  |cons a ae ih=>
   intro pre hp;have aF:=bj hp;have aq:=bR (f:=Hn.s) hp;have ha:=h a (by rw[hp];simp);have next:=ih (pre++[a]) (by rw[hp,aV]);have gi:(pre.map (Hn.s)).length=pre.length:=xm _;have bc:aN (.fO 0) (.sl (pre.map (Hn.s)++List.replicate (ae.length+1) [.str [],.sl [],.sl []])::jD pre.length::Hn.s a)=some (.sl ((pre++[a]).map (Hn.s)++List.replicate ae.length [.str [],.sl [],.sl []])):=by
    rw[←gi,Cv Ce (by cases a;rfl),B7,List.map_append];rfl
   have mS:aN .jF [.sl (pre.map (Hn.s)++List.replicate (ae.length+1) [.str [],.sl [],.sl []]),jD pre.length]=some (.bool (decide (pre.length<l.length))):=fm (by simp;omega);rw[xa] at next;rw[show(a::ae).length=ae.length+1 from rfl];obtain⟨a1,a2,a3⟩:=a;exact wr rfl<|wy rfl af<|wo rfl (aA aq rfl)<|wg 1 rfl<|w8<|wl rfl ha rfl<|cW<|wy rfl mS<|wo rfl bc<|wo rfl oA<|wj next
 have g:=loop l [] rfl;exact wr rfl<|wo rfl (az (xm _))<|wo rfl (Cx rfl hl (by omega))<|wo rfl (az (xm _))<|wj g
theorem cq2{l:List (List Hn)}(hl:l.length≤1000)(h:∀a∈l,Rn F X 93 0 (vD a) (·=vD a)):Rn F X 88 0 [.sl (l.map (vD))] (·=[.sl (l.map (vD))]):=by
 have loop:∀(ae pre:List (List Hn)),l=pre++ae→Rn F X 88 1 [.sl (pre.map (vD)++List.replicate ae.length [.sl []]),.sl (l.map (vD)),jD l.length,jD pre.length] (·=[.sl (l.map (vD))]):=by
  intro ae
  induction ae with
  |nil=>
   intro pre hp;rw[xj] at hp;subst hp;rw[show([]:List (List Hn)).length=0 from rfl,List.replicate_zero,xj];exact wr rfl<|wn rfl af<|wt rfl rfl
  |cons a ae ih=>
   intro pre hp;have aF:=bj hp;have aq:=bR (f:=vD) hp;have ha:=h a (by rw[hp];simp);have next:=ih (pre++[a]) (by rw[hp,aV]);have gi:(pre.map (vD)).length=pre.length:=xm _;have bc:aN (.fO 0) (.sl (pre.map (vD)++List.replicate (ae.length+1) [.sl []])::jD pre.length::vD a)=some (.sl ((pre++[a]).map (vD)++List.replicate ae.length [.sl []])):=by
    rw[←gi,Cv Ce (show([D.sl []]:List D).length=(vD a).length from rfl),B7,List.map_append];rfl
   have mS:aN .jF [.sl (pre.map (vD)++List.replicate (ae.length+1) [.sl []]),jD pre.length]=some (.bool (decide (pre.length<l.length))):=fm (by simp;omega);rw[xa] at next;rw[show(a::ae).length=ae.length+1 from rfl]
   skip
   exact wr rfl<|wy rfl af<|wo rfl (aA aq rfl)<|wg 1 rfl<|w6<|wl rfl ha rfl<|w7<|wy rfl mS<|wo rfl bc<|wo rfl oA<|wj next
 have g:=loop l [] rfl;exact wr rfl<|wo rfl (az (xm _))<|wo rfl (Cx rfl hl (by omega))<|wo rfl (az (xm _))<|wj g
theorem cq5{l:List Cm}(hl:l.length≤1000)(h:∀a∈l,Rn F X 94 0 (Cm.s a) (·=Cm.s a)):Rn F X 89 0 [.sl (l.map (Cm.s))] (·=[.sl (l.map (Cm.s))]):=by
 have loop:∀(ae pre:List Cm),l=pre++ae→Rn F X 89 1 [.sl (pre.map (Cm.s)++List.replicate ae.length [.str [],.sl [],.sl []]),.sl (l.map (Cm.s)),jD l.length,jD pre.length] (·=[.sl (l.map (Cm.s))]):=by
  intro ae
  induction ae with
  |nil=>
   intro pre hp;rw[xj] at hp;subst hp;rw[show([]:List Cm).length=0 from rfl,List.replicate_zero,xj];exact wr rfl<|wn rfl af<|wt rfl rfl
  |cons a ae ih=>
   intro pre hp;have aF:=bj hp;have aq:=bR (f:=Cm.s) hp;have ha:=h a (by rw[hp];simp);have next:=ih (pre++[a]) (by rw[hp,aV]);have gi:(pre.map (Cm.s)).length=pre.length:=xm _;have bc:aN (.fO 0) (.sl (pre.map (Cm.s)++List.replicate (ae.length+1) [.str [],.sl [],.sl []])::jD pre.length::Cm.s a)=some (.sl ((pre++[a]).map (Cm.s)++List.replicate ae.length [.str [],.sl [],.sl []])):=by
    rw[←gi,Cv Ce (by cases a;rfl),B7,List.map_append];rfl
   have mS:aN .jF [.sl (pre.map (Cm.s)++List.replicate (ae.length+1) [.str [],.sl [],.sl []]),jD pre.length]=some (.bool (decide (pre.length<l.length))):=fm (by simp;omega);rw[xa] at next;rw[show(a::ae).length=ae.length+1 from rfl];obtain⟨a1,a2,a3⟩:=a;exact wr rfl<|wy rfl af<|wo rfl (aA aq rfl)<|wg 1 rfl<|w8<|wl rfl ha rfl<|cW<|wy rfl mS<|wo rfl bc<|wo rfl oA<|wj next
 have g:=loop l [] rfl;exact wr rfl<|wo rfl (az (xm _))<|wo rfl (Cx rfl hl (by omega))<|wo rfl (az (xm _))<|wj g
theorem cJ3{e:Fl.Ex}(h:ke iC e):Rn F X 90 0 (Ex.s e) (·=Ex.s e):=by
 induction h with
 | @mk op name n args hn ha ih=>
  obtain⟨h1,h2,h3,h4,h5⟩:=hn.get;have eu:args.length≤2:=by rw[h3];unfold jU;split<;>(try split)<;>omega
  have c:=ao0 (X:=X) (l:=args) (by omega) ih;rw[←Cn] at c;exact wr rfl<|wl rfl c rfl<|wt rfl rfl
theorem bR5{l:List Fl.Ex}(hl:l.length≤1000)(h:∀e∈l,ke iC e):Rn F X 85 0 [.sl (Ex.ss l)] (·=[.sl (Ex.ss l)]):=by
 rw[Cn];exact ao0 hl (fun a ha=>cJ3 (h a ha))
theorem bR4{l:List St}(hl:l.length≤12)(h:∀s∈l,gO mj s):Rn F X 86 0 [.sl (St.ss l)] (·=[.sl (St.ss l)]):=by
 refine gO.list (P:=fun l=>Rn F X 86 0 [.sl (St.ss l)] (·=[.sl (St.ss l)])) ?_ hl h;intro l hl h;rw[EX];refine cq3 (by omega) (fun s hs=> ?_);obtain⟨ha,hs⟩:=h s hs;obtain⟨kind,name,bV,bg,th,el⟩:=s;obtain⟨ec,eJ⟩:=hs;have fH:bg.length≤3:=by have:=ha.ln;omega
 have c:=bR5 (X:=X) (l:=bg) (by omega) (fun e he=>(ha.ex e he).1);exact wr rfl<|wl rfl c rfl<|wl rfl ec rfl<|wl rfl eJ rfl<|wt rfl rfl
theorem MO{es bys:Nat}{q:List (List D)}(hq:∀row∈q,row.length=es∧row.all D.cell=true)(hn:q.length≤1000)(hb:bys≤1000):aN (.app es bys) [.sl [],.sl q]=some (.sl q):=by
 have:q.length*bys≤1000*1000:=Nat.mul_le_mul hn hb;have:=zT (rows:=[]) (bys:=bys) hq (by simp;omega) (by simp;omega);simpa using this
theorem cJ2{h:Hn}(hh:BJ h):Rn F X 92 0 h.s (·=h.s):=by
 have c:=bR4 (X:=X) hh.len hh.body;have hp:=hh.params.1;obtain⟨h1,h2,h3⟩:=h;have ha:=MO (bys:=16) (IJ h2) (by rw[rH];simp only at hp;omega) (by omega);exact wr rfl<|wg 1 rfl<|wo rfl ha<|wl rfl c rfl<|wt rfl rfl
theorem cJ4{c:Cm}(hc:Iv c):Rn F X 94 0 c.s (·=c.s):=by
 have cO:∀l∈c.bt,Rn F X 93 0 (vD l) (·=vD l):=by
  intro l hl;have bF:=hc.hs l hl;have cH:=cq4 (X:=X) (l:=l) (by omega) (fun h hh=>cJ2 (bF.2 h hh));show Rn F X 93 0 [D.sl (l.map Hn.s)] (·=[D.sl (l.map Hn.s)]);exact wr rfl<|wl rfl cH rfl<|wt rfl rfl
 have cV:Rn F X 88 0 [.sl (cr c.bt)] (·=[.sl (cr c.bt)]):=cq2 (by have:=hc.vs.2;omega) cO;have hv:=hc.vars.1;obtain⟨c1,c2,c3⟩:=c;have ha:=MO (bys:=32) (es:=3) (q:=c2.map Vr.s) (fun row h=>by obtain⟨v,_,rfl⟩:=xJ.1 h;exact⟨rfl,rfl⟩) (by rw[xm];simp only at hv;omega) (by omega);exact wr rfl<|wg 1 rfl<|wo rfl ha<|wl rfl cV rfl<|wt rfl rfl
theorem PP{f:dK}(hf:tf f):Rn F X 95 0 f.s (·=f.s):=by
 have cC:=cq5 (X:=X) (l:=f.comps) (by have:=hf.comps.2.1;omega) (fun c hc=>cJ4 (hf.comps.2.2 c hc));have h1:=hf.flags.1;have h2:=hf.links.1;obtain⟨f1,f2,f3,f4⟩:=f;have a1:=MO (bys:=24) (es:=2) (q:=f2.map Fg.d) (fun row h=>by obtain⟨v,_,rfl⟩:=xJ.1 h;exact⟨rfl,rfl⟩) (by rw[xm];simp only at h1;omega) (by omega);have a2:=MO (bys:=40) (es:=3) (q:=f3.map Lk.d) (fun row h=>by obtain⟨v,_,rfl⟩:=xJ.1 h;exact⟨rfl,rfl⟩) (by rw[xm];simp only at h2;omega) (by omega);exact wr rfl<|wg 1 rfl<|wo rfl a1<|wg 1 rfl<|wo rfl a2<|w8<|wl rfl cC rfl<|wt rfl rfl
end
structure wJ (X:Nat→List D→Option (List D)):Prop where
 int:∀n,n≤8→∃s:aL,s.length≤3∧Rn F X 112 0 [iD n,iD 10] (·=[.str s])
 join:∀(l:List aL) (m:Nat),l.length≤3→(∀s∈l,s.length≤m)→m≤100000→∃s:aL,s.length≤3*m+4∧Rn F X 113 0 [.sl (strs l),.str [44,32]] (·=[.str s])
section
variable{X:Nat→List D→Option (List D)}
theorem bi5{op:Nat}(h1:1≤op)(h2:op≤23):(n6 op).length≤5:=by
 refine Ye h1 h2 (P:=fun op=>(n6 op).length≤5) ?_;decide
theorem br3(op:Nat):Ha op≤7:=by
 unfold Ha;split<;>(try split)<;>(try split)<;>(try split)<;>(try split)<;>(try split)<;>omega
theorem vN{α:Type}:∀{l:List α},l.length=1→∃a,l=[a]
 |[a],_=>⟨a,rfl⟩
def BI(m:Nat)(o:List D):Prop:=∃s:aL,o=[.str s]∧s.length≤m
theorem IB{e:Fl.Ex}(hn:iC e){k:Int}{m:Nat}(hm:m≤100000)(ht:Rn F X 99 0 (Ex.s e) (BI m)):Rn F X 98 0 (Ex.s e++[.int .i64 k]) (BI (m+2)):=by
 obtain⟨op,name,n,args⟩:=e;obtain⟨h1,h2,h3,h4,h5⟩:=hn.get;have dL:=wX (X:=X) h1 h2;by_cases q:5≤op∧op≤8
 ·rw[show vK op=true from decide_eq_true q] at dL;refine wr rfl<|wl rfl dL rfl<|Wp.aQ rfl af (fun h=> ?_) (fun h=> ?_)
  ·refine wg 1 rfl<|wx rfl ht fun|_,⟨s,rfl,hs⟩=>⟨rfl,?_⟩
   exact wo rfl (c8 (by first|omega|(simp only [xa,xi,xd];omega)))<|kF<|wo rfl (c8 (by first|omega|(simp only [xa,xi,xd];omega)))<|jq<|wt rfl ⟨_,rfl,by first|omega|(simp only [xa,xi,xd];omega)⟩
  ·refine wg 1 rfl<|wx rfl ht fun|_,⟨s,rfl,hs⟩=>⟨rfl,?_⟩
   exact wt rfl ⟨_,rfl,by first|omega|(simp only [xa,xi,xd];omega)⟩
 ·rw[show vK op=false from decide_eq_false q] at dL;refine wr rfl<|wl rfl dL rfl<|Wp.aQ rfl af (fun h=> ?_) (fun h=> ?_)
  ·refine wg 1 rfl<|wx rfl ht fun|_,⟨s,rfl,hs⟩=>⟨rfl,?_⟩
   exact wo rfl (c8 (by first|omega|(simp only [xa,xi,xd];omega)))<|kF<|wo rfl (c8 (by first|omega|(simp only [xa,xi,xd];omega)))<|jq<|wt rfl ⟨_,rfl,by first|omega|(simp only [xa,xi,xd];omega)⟩
  ·refine wg 1 rfl<|wx rfl ht fun|_,⟨s,rfl,hs⟩=>⟨rfl,?_⟩
   exact wt rfl ⟨_,rfl,by first|omega|(simp only [xa,xi,xd];omega)⟩
theorem bp3(hP:wJ X){e:Fl.Ex}(h:ke iC e):20*e.sz≤99000→Rn F X 99 0 (Ex.s e) (BI (20*e.sz)):=by
 induction h with
 | @mk op name n args hn ha ih=>
  intro hl;obtain⟨h1,h2,h3,h4,h5⟩:=hn.get;have dL:=wX (X:=X) h1 h2;have wm:=bi5 h1 h2;have UR:=br3 op;have jV:name.length≤6:=by
   rcases h5 with⟨_,_,h⟩|⟨_,rfl⟩
   ·exact qd h
   ·exact xL _
  have gG:∀a∈args,iC a:=fun a h=>by
   have:=ha a h;cases this;assumption
  simp only [Ex.sz] at hl⊢;have hc:op=1∨op=2∨op=3∨op=4∨op=5∨op=6∨op=7∨op=8∨op=9∨op=10∨11≤op:=by omega
  rcases hc with rfl|rfl|rfl|rfl|rfl|rfl|rfl|rfl|rfl|rfl|hc
  ·obtain⟨s9,zf,dm9⟩:=hP.int n (by omega);have dL:Rn F X 18 0 [bD 1] (·=[iD 0,.bool false,iD 7,.str (n6 1),.bool true]):=dL;exact wr rfl<|wl rfl dL rfl<|wg 1 rfl<|wl rfl dm9 rfl<|wt rfl ⟨_,rfl,by first|omega|(simp only [xa,xi,xd];omega)⟩
  ·have dL:Rn F X 18 0 [bD 2] (·=[iD 0,.bool false,iD 7,.str (n6 2),.bool true]):=dL;exact wr rfl<|wl rfl dL rfl<|wg 8 rfl<|wt rfl ⟨_,rfl,by first|omega|(simp only [xa,xi,xd];omega)⟩
  ·have dL:Rn F X 18 0 [bD 3] (·=[iD 0,.bool false,iD 7,.str (n6 3),.bool true]):=dL;exact wr rfl<|wl rfl dL rfl<|wg 8 rfl<|wt rfl ⟨_,rfl,by first|omega|(simp only [xa,xi,xd];omega)⟩
  ·have dL:Rn F X 18 0 [bD 4] (·=[iD 0,.bool false,iD 7,.str (n6 4),.bool true]):=dL;exact wr rfl<|wl rfl dL rfl<|wg 8 rfl<|wt rfl ⟨_,rfl,by first|omega|(simp only [xa,xi,xd];omega)⟩
  ·have dL:Rn F X 18 0 [bD 5] (·=[iD 0,.bool true,iD 7,.str (n6 5),.bool true]):=dL;exact wr rfl<|wl rfl dL rfl<|wg 2 rfl<|wo rfl (c8 (by first|omega|(simp only [xa,xi,xd];omega)))<|wt rfl ⟨_,rfl,by first|omega|(simp only [xa,xi,xd];omega)⟩
  ·obtain⟨a,rfl⟩:∃a,args=[a]:=vN (by rw[h3];rfl);have dL:Rn F X 18 0 [bD 6] (·=[iD 1,.bool true,iD 7,.str (n6 6),.bool true]):=dL;simp only [Ex.iI] at hl⊢;have t1:=ih a (by simp) (by omega);obtain⟨o1,n1,i1,a1⟩:=a;refine wr rfl<|wl rfl dL rfl<|wg 4 rfl<|wo rfl (c8 (by first|omega|(simp only [xa,xi,xd];omega)))<|wo rfl (c8 (by first|omega|(simp only [xa,xi,xd];omega)))<|wg 1 rfl<|kF<|wg 1 rfl<|lG<|wg 1 rfl<|wx rfl t1 fun|_,⟨s,rfl,hs⟩=>⟨rfl,?_⟩
   exact wo rfl (c8 (by first|omega|(simp only [xa,xi,xd];omega)))<|wo rfl (c8 (by first|omega|(simp only [xa,xi,xd];omega)))<|wt rfl ⟨_,rfl,by first|omega|(simp only [xa,xi,xd];omega)⟩
  ·obtain⟨a,rfl⟩:∃a,args=[a]:=vN (by rw[h3];rfl);have dL:Rn F X 18 0 [bD 7] (·=[iD 1,.bool true,iD 7,.str (n6 7),.bool true]):=dL;simp only [Ex.iI] at hl⊢;have t1:=ih a (by simp) (by omega);obtain⟨o1,n1,i1,a1⟩:=a;refine wr rfl<|wl rfl dL rfl<|wg 5 rfl<|wo rfl (c8 (by first|omega|(simp only [xa,xi,xd];omega)))<|wo rfl (c8 (by first|omega|(simp only [xa,xi,xd];omega)))<|wg 1 rfl<|kF<|wg 1 rfl<|lG<|wg 1 rfl<|wx rfl t1 fun|_,⟨s,rfl,hs⟩=>⟨rfl,?_⟩
   exact wo rfl (c8 (by first|omega|(simp only [xa,xi,xd];omega)))<|wo rfl (c8 (by first|omega|(simp only [xa,xi,xd];omega)))<|wt rfl ⟨_,rfl,by first|omega|(simp only [xa,xi,xd];omega)⟩
  ·have dL:Rn F X 18 0 [bD 8] (·=[iD 0,.bool true,iD 7,.str (n6 8),.bool true]):=dL;exact wr rfl<|wl rfl dL rfl<|wg 3 rfl<|wo rfl (c8 (by first|omega|(simp only [xa,xi,xd];omega)))<|wt rfl ⟨_,rfl,by first|omega|(simp only [xa,xi,xd];omega)⟩
  ·obtain⟨a,rfl⟩:∃a,args=[a]:=vN (by rw[h3];rfl);have dL:Rn F X 18 0 [bD 9] (·=[iD 1,.bool false,iD 6,.str (n6 9),.bool true]):=dL;simp only [Ex.iI] at hl⊢;have t1:=fun k=>IB (X:=X) (k:=k) (gG a (by simp)) (by omega) (ih a (by simp) (by omega))
   obtain⟨o1,n1,i1,a1⟩:=a;refine wr rfl<|wl rfl dL rfl<|wg 8 rfl<|kf<|wg 1 rfl<|wx rfl (t1 _) fun|_,⟨s,rfl,hs⟩=>⟨rfl,?_⟩
   exact wo rfl (c8 (by first|omega|(simp only [xa,xi,xd];omega)))<|wt rfl ⟨_,rfl,by first|omega|(simp only [xa,xi,xd];omega)⟩
  ·obtain⟨a,rfl⟩:∃a,args=[a]:=vN (by rw[h3];rfl);have dL:Rn F X 18 0 [bD 10] (·=[iD 1,.bool false,iD 6,.str (n6 10),.bool true]):=dL;simp only [Ex.iI] at hl⊢;have t1:=fun k=>IB (X:=X) (k:=k) (gG a (by simp)) (by omega) (ih a (by simp) (by omega))
   obtain⟨o1,n1,i1,a1⟩:=a;refine wr rfl<|wl rfl dL rfl<|wg 9 rfl<|kf<|wg 1 rfl<|wx rfl (t1 _) fun|_,⟨s,rfl,hs⟩=>⟨rfl,?_⟩
   exact wo rfl (c8 (by first|omega|(simp only [xa,xi,xd];omega)))<|wt rfl ⟨_,rfl,by first|omega|(simp only [xa,xi,xd];omega)⟩
  ·obtain⟨a,b,rfl⟩:∃a b,args=[a,b]:=Me (by rw[h3];unfold jU;rw[if_neg (by omega),if_pos (by omega)]);have eu:jU op=2:=h3.symm;rw[eu,show vK op=false from decide_eq_false (by omega)] at dL;simp only [Ex.iI] at hl⊢;have t1:=fun k=>IB (X:=X) (k:=k) (gG a (by simp)) (by omega) (ih a (by simp) (by omega))
   have t2:=fun k=>IB (X:=X) (k:=k) (gG b (by simp)) (by omega) (ih b (by simp) (by omega))
   obtain⟨o1,n1,i1,a1⟩:=a;obtain⟨o2,n2,i2,a2⟩:=b;generalize n6 op=tx at*;generalize Ha op=lv at*;refine wr rfl<|wl rfl dL rfl<|wn rfl au<|wn rfl au<|wn rfl au<|wn rfl au<|wn rfl au<|wn rfl au<|wn rfl au<|wn rfl au<|Wp.aQ rfl au (fun h=> ?_) (fun h=> ?_)
   ·refine wo rfl oA<|wg 2 rfl<|dC<|wg 2 rfl<|jo<|wo rfl oA<|wg 1 rfl<|wx rfl (t1 _) fun|_,⟨s1,rfl,ec⟩=>⟨rfl,?_⟩
    refine wo rfl (c8 (by first|omega|(simp only [xa,xi,xd];omega)))<|wg 1 rfl<|wx rfl (t2 _) fun|_,⟨s2,rfl,eJ⟩=>⟨rfl,?_⟩
    exact v9<|wo rfl (c8 (by first|omega|(simp only [xa,xi,xd];omega)))<|wt rfl ⟨_,rfl,by first|omega|(simp only [xa,xi,xd];omega)⟩
   ·refine wg 2 rfl<|kf<|wg 2 rfl<|fJ<|wo rfl oA<|wg 1 rfl<|wx rfl (t1 _) fun|_,⟨s1,rfl,ec⟩=>⟨rfl,?_⟩
    refine wo rfl (c8 (by first|omega|(simp only [xa,xi,xd];omega)))<|wg 1 rfl<|wx rfl (t2 _) fun|_,⟨s2,rfl,eJ⟩=>⟨rfl,?_⟩
    exact om<|wo rfl (c8 (by first|omega|(simp only [xa,xi,xd];omega)))<|wt rfl ⟨_,rfl,by first|omega|(simp only [xa,xi,xd];omega)⟩
end
section
variable{X:Nat→List D→Option (List D)}
def cM:List aL→Nat|[]=>0|s::l=>s.length+cM l
theorem Wb:∀(l:List aL) (s:aL),cM (l++[s])=cM l+s.length
 |[],s=>by simp[cM]
 |a::l,s=>by simp only [List.cons_append,cM,Wb l s];omega
theorem WI:∀(l m:List aL),cM (l++m)=cM l+cM m
 |[],m=>by simp[cM]
 |a::l,m=>by simp only [List.cons_append,cM,WI l m];omega
theorem uT{t s:List UInt8}(h:t.length+s.length≤1000000000000):aN (.app 1 1) [.sl (bO t),.str s]=some (.sl (bO (t++s))):=by
 show(if lj ((bO t).length+(s.map fun b=>[D.int .u8 (b.toNat:Nat)]).length) 1 then some (D.sl (bO t++s.map fun b=>[D.int .u8 (b.toNat:Nat)])) else none)=_;rw[if_pos (by simp[lj,rD];omega)];simp[bO]
theorem XH{t:List UInt8}(h:t.length+1≤1000000000000):aN (.app 1 1) [.sl (bO t),.sl [[.int .u8 10]]]=some (.sl (bO (t++[10]))):=by
 have e:=fZ (es:=1) (bys:=1) (row:=[D.int .u8 10]) (rows:=bO t) rfl rfl (by rw[rD];omega) (by rw[rD];omega);rw[e];simp[bO]
def WQ(t:List UInt8)(ind m:Nat)(o:List D):Prop:=∃t':List UInt8,o=[.sl (bO t'),jD ind]∧t.length≤t'.length∧t'.length≤t.length+m
theorem dH4{ps:List aL}(hp:ps.length≤20){t:List UInt8}{ind:Nat}(hi:ind≤60)(hl:t.length+2*ind+cM ps+1≤1000000000000):Rn F X 100 0 [.sl (bO t),jD ind,.sl (strs ps)] (WQ t ind (2*ind+cM ps+1)):=by
 have p2:∀(ae pre:List aL),ps=pre++ae→∀t':List UInt8,t.length≤t'.length→t'.length≤t.length+2*ind+cM pre→Rn F X 100 2 [.sl (strs ps),jD ps.length,jD pre.length,.sl (bO t'),jD ind] (WQ t ind (2*ind+cM ps+1)):=by
  intro ae
  induction ae with
  |nil=>
   intro pre aH t' h0 h1;rw[xj] at aH;subst aH;exact wr rfl<|wn rfl af<|wg 2 rfl<|wo rfl (XH (by omega))<|wt rfl ⟨_,rfl,by simp;omega,by simp;omega⟩
  |cons a ae ih=>
   intro pre aH t' h0 h1;have aF:=bj aH;have aq:(strs ps)[pre.length]? =some [.str a]:=bR (f:=fun p:aL=>[D.str p]) aH;have hs:cM ps=cM pre+(a.length+cM ae):=by rw[aH,WI];rfl
   have next:=ih (pre++[a]) (by rw[aH,aV]) (t'++a) (by simp;omega) (by rw[Wb];simp;omega);rw[xa] at next;exact wr rfl<|wy rfl af<|wo rfl (aA aq rfl)<|wg 2 rfl<|wo rfl (uT (by omega))<|wg 1 rfl<|w9<|wo rfl oA<|wj next
 have p1:∀(f k:Nat),k+f=ind→∀t':List UInt8,t.length≤t'.length→t'.length≤t.length+2*k→Rn F X 100 1 [.sl (strs ps),jD ind,jD k,.sl (bO t')] (WQ t ind (2*ind+cM ps+1)):=by
  intro f
  induction f with
  |zero=>
   intro k hk t' h0 h1;obtain rfl:k=ind:=by omega
   exact wr rfl<|wn rfl af<|wo rfl (az (rH _))<|Wp.jump rfl (p2 ps [] rfl t' h0 (by simp[cM];omega))
  |succ f ih=>
   intro k hk t' h0 h1;have next:=ih (k+1) (by omega) (t'++[32,32]) (by simp;omega) (by simp;omega);exact wr rfl<|wy rfl af<|wg 1 rfl<|wo rfl (uT (by simp;omega))<|wo rfl oA<|wj next
 have g:=p1 ind 0 (by omega) t (by omega) (by omega);exact wr rfl<|wj g
abbrev BW(X:Nat→List D→Option (List D))(l:List St):Prop:=∀(t:List UInt8) (ind:Nat),ind+St.ns l≤40→t.length+20000*St.ns l≤100000000000→Rn F X 103 0 [.sl (bO t),jD ind,.sl (St.ss l)] (WQ t ind (20000*St.ns l))
theorem Yb{l:List St}(hb:BW X l){s:aL}(hs:s.length≤3000){t:List UInt8}{ind:Nat}(hi:ind+St.ns l≤40)(hl:t.length+20000*St.ns l+10000≤100000000000):Rn F X 101 0 [.sl (bO t),jD ind,.str s,.sl (St.ss l)] (WQ t ind (20000*St.ns l+10000)):=by
 have kL:=mW l;rcases xI l.length with h0|h0
 ·have c:=dH4 (X:=X) (ps:=[s,[59]]) (t:=t) (ind:=ind) (by simp) (by omega) (by simp[cM];omega);refine wr rfl<|wo rfl (az (n:=l.length) (lR _))<|wy rfl au<|wg 2 rfl ?_
  (refine wx rfl c fun|_,⟨t1,rfl,h1,h2⟩=>⟨rfl,?_⟩;simp only [cM,xi,xd] at h2)
  exact wt rfl ⟨t1,rfl,h1,by omega⟩
 ·have c:=dH4 (X:=X) (ps:=[s,[32,101,108,115,101,32,123]]) (t:=t) (ind:=ind) (by simp) (by omega) (by simp[cM];omega);have c2:=fun(t1:List UInt8) (h:t1.length+20000*St.ns l≤100000000000)=>hb t1 ind hi h
  have c3:=fun(t1:List UInt8) (h:t1.length≤100000000000)=>dH4 (X:=X) (ps:=[[125]]) (t:=t1) (ind:=ind) (by simp) (by omega) (by simp[cM];omega)
  refine wr rfl<|wo rfl (az (n:=l.length) (lR _))<|wn rfl au<|wg 2 rfl ?_
  (have _:=c2;refine wx rfl c ?_;rintro _ ⟨t1,rfl,h1,h2⟩;refine⟨rfl,?_⟩;simp only [cM,xi,xd] at h2)
  refine wg 1 rfl<|wx rfl (c2 t1 (by omega)) fun|_,⟨t2,rfl,h3,h4⟩=>⟨rfl,?_⟩
  refine mK<|wg 2 rfl ?_
  (refine wx rfl (c3 t2 (by omega)) fun|_,⟨t3,rfl,h5,h6⟩=>⟨rfl,?_⟩;simp only [cM,xi,xd] at h6)
  exact wt rfl ⟨t3,rfl,by omega,by omega⟩
end
end Go.Proofs.YtnjdjocokegphaaGreatDoor
