/- What these functions answer. -/
import Derived.Test.YtaginlnifpbfgaaGreatDoorT0
import Derived.Test.YtaginlnifpbfgaaGreatDoorA0
set_option linter.unusedVariables false
set_option linter.unusedSimpArgs false
set_option maxHeartbeats 4000000
set_option maxRecDepth 100000
namespace Go.Proofs.YtaginlnifpbfgaaGreatDoor
open Go.Ex Go.RowKit
abbrev db5:Nat:=0
abbrev cX7:Nat:=1
abbrev cZ1:Nat:=2
abbrev cX6:Nat:=3
abbrev da3:Nat:=4
abbrev db4:Nat:=5
abbrev db6:Nat:=6
abbrev df6:Nat:=7
abbrev df7:Nat:=8
abbrev df8:Nat:=9
abbrev cX1:Nat:=10
abbrev df9:Nat:=11
abbrev dg5:Nat:=12
abbrev dg6:Nat:=13
abbrev df0:Nat:=14
abbrev da1:Nat:=15
abbrev de4:Nat:=16
abbrev db2:Nat:=17
abbrev dc4:Nat:=18
abbrev cW9:Nat:=19
abbrev db1:Nat:=20
abbrev cY7:Nat:=21
abbrev dd6:Nat:=22
abbrev dc0:Nat:=23
abbrev de2:Nat:=24
abbrev dd2:Nat:=25
abbrev dd1:Nat:=26
abbrev cX5:Nat:=27
abbrev cW4:Nat:=28
abbrev cW3:Nat:=29
abbrev da9:Nat:=30
abbrev da0:Nat:=31
abbrev da8:Nat:=32
abbrev cZ9:Nat:=33
abbrev cW2:Nat:=34
abbrev cX4:Nat:=35
abbrev dd0:Nat:=36
abbrev dc1:Nat:=37
abbrev db0:Nat:=38
abbrev de1:Nat:=39
abbrev dd7:Nat:=40
abbrev de5:Nat:=41
abbrev cU6:Nat:=42
abbrev cV0:Nat:=43
abbrev cU4:Nat:=44
abbrev cU3:Nat:=45
abbrev dg2:Nat:=46
abbrev dc7:Nat:=47
abbrev dd5:Nat:=48
abbrev db8:Nat:=49
abbrev cW6:Nat:=50
abbrev cV9:Nat:=51
abbrev cW7:Nat:=52
abbrev da7:Nat:=53
abbrev cX3:Nat:=54
abbrev cX2:Nat:=55
abbrev cY2:Nat:=56
abbrev cV2:Nat:=57
abbrev df3:Nat:=58
abbrev cW5:Nat:=59
abbrev da6:Nat:=60
abbrev cZ7:Nat:=61
abbrev cZ6:Nat:=62
abbrev cY1:Nat:=63
abbrev cZ8:Nat:=64
abbrev cY3:Nat:=65
abbrev dc8:Nat:=66
abbrev db9:Nat:=67
abbrev cW8:Nat:=68
abbrev cW1:Nat:=69
abbrev dg9:Nat:=70
abbrev cU2:Nat:=71
abbrev cZ3:Nat:=72
abbrev cZ4:Nat:=73
abbrev cY0:Nat:=74
abbrev cX9:Nat:=75
abbrev cV7:Nat:=76
abbrev cZ5:Nat:=77
abbrev cZ2:Nat:=78
abbrev cV8:Nat:=79
abbrev dg1:Nat:=80
abbrev da5:Nat:=81
abbrev dd4:Nat:=82
abbrev df1:Nat:=83
abbrev df2:Nat:=84
abbrev cV6:Nat:=85
abbrev cV5:Nat:=86
abbrev cU9:Nat:=87
abbrev cU8:Nat:=88
abbrev cU7:Nat:=89
abbrev dc3:Nat:=90
abbrev dc2:Nat:=91
abbrev cY8:Nat:=92
abbrev dc5:Nat:=93
abbrev dd8:Nat:=94
abbrev df5:Nat:=95
abbrev cY9:Nat:=96
abbrev cX0:Nat:=97
abbrev dc9:Nat:=98
abbrev df4:Nat:=99
abbrev cY4:Nat:=100
abbrev cY5:Nat:=101
abbrev cV3:Nat:=102
abbrev cY6:Nat:=103
abbrev cW0:Nat:=104
abbrev cV4:Nat:=105
abbrev de3:Nat:=106
abbrev dh2:Nat:=107
abbrev dg4:Nat:=108
abbrev de9:Nat:=109
abbrev de0:Nat:=110
abbrev de7:Nat:=111
abbrev da2:Nat:=112
abbrev de6:Nat:=113
abbrev dg8:Nat:=114
abbrev de8:Nat:=115
abbrev dd3:Nat:=116
abbrev da4:Nat:=117
abbrev dg3:Nat:=118
abbrev dd9:Nat:=119
abbrev cX8:Nat:=120
abbrev dh0:Nat:=121
abbrev db3:Nat:=122
abbrev cZ0:Nat:=123
abbrev dh3:Nat:=124
abbrev cV1:Nat:=125
abbrev cU5:Nat:=126
abbrev cU1:Nat:=127
abbrev dg7:Nat:=128
abbrev dc6:Nat:=129
abbrev dg0:Nat:=130
open Go.Ex Go.RowKit Go.Fl
variable{X:Nat→List D→Option (List D)}
theorem tu(l:List UInt8):(bX l).length=l.length:=xm _
theorem Pf{m:Mk}{n:Nat}(hn:1≤n):Rn F X 0 0 (m.d++[iD n]) (fun o=>∃k bs,o=iD k::Mk.d {m with bs:=bs}∧k<n∧bs.length≤m.bs.length):=by
 obtain⟨ints,tables,flags,own,ar,params,bs,left⟩:=m;refine Rn.of (fd:=Uo) (t:=aE2) rfl rfl rfl rfl (Wp.op rfl bf rfl ?_);cases bs with
 |nil=>exact Wp.fR rfl ay rfl (wt rfl ⟨0,[],rfl,by omega,xk _⟩)
 |cons b bs=>
  refine Wp.iG rfl ay (by show ¬(((bX (b::bs)).length:Nat):Int)=0;rw[tu,xi];omega)<|Wp.op rfl rfl rfl (Wp.op rfl rfl rfl (Wp.op rfl (YD (by have:=b.toNat_lt;omega)) rfl ?_));exact wo rfl (JV (by simp[bX]) (fun r hr=>by obtain⟨x,_,rfl⟩:=xJ.1 hr;rfl))<|Wp.op rfl (kz .i64 hn) rfl (wt rfl ⟨b.toNat%n,bs,rfl,Nat.mod_lt _ hn,by simp⟩)
def kP(c k:Nat):List (List D):=(List.range k).map fun j=>[.str (nm c j)]
theorem aW2(c k:Nat):kP c (k+1)=kP c k++[[.str (nm c k)]]:=by simp[kP,List.range_succ]
theorem y7(c k:Nat):(kP c k).length=k:=by simp[kP]
theorem nH{c k j:Nat}(h:j<k):(kP c k)[j]? =some [.str (nm c j)]:=by simp[kP,h]
theorem U4{c n:Nat}(hc:c<256)(hn:n≤9):∀(f k:Nat),k+f=n→Rn F X 7 1 [bD c,iD n,.sl (kP c k),iD k] (·=[.sl (kP c n)])
 |0,k,h=>by
  obtain rfl:k=n:=by omega
  exact Rn.of (fd:=I6) (t:=SZ) rfl rfl rfl rfl (Wp.iG rfl ak (by omega) (wt rfl rfl))
 |f+1,k,h=>by
  refine Rn.of (fd:=I6) (t:=SZ) rfl rfl rfl rfl (Wp.fR rfl ak (by omega) ?_);refine Wp.op rfl (m4 (a:=48) (by omega)) rfl (Wp.op rfl (Kf (by omega)) rfl (Wp.op rfl (bd8 hc (by omega)) rfl ?_));refine Wp.note (Wp.op rfl rfl rfl (Wp.op rfl (gO rfl rfl (by rw[y7];omega) (by rw[y7];omega)) rfl (Wp.op rfl (m4 (b:=1) (by omega)) rfl (Wp.jump rfl ?_))));have:=U4 hc hn f (k+1) (by omega);rw[aW2] at this;exact this
theorem l4{c n:Nat}(hc:c<256)(hn:n≤9):Rn F X 7 0 [bD c,iD n] (·=[.sl (kP c n)]):=
 Rn.of (fd:=I6) (t:=aE1) rfl rfl rfl rfl (Wp.jump rfl (U4 hc hn n 0 (by omega)))
section
variable{X:Nat→List D→Option (List D)}{ints tables flags own params left:Nat}{ar:List (List Nat)}
abbrev dU(ints tables flags own:Nat)(ar:List (List Nat))(params:Nat)(bs:List UInt8)(left:Nat):List D:=[iD ints,iD tables,iD flags,iD own,.sl (dO ar),iD params,.sl (bX bs),iD left]
theorem eY{bs:List UInt8}(n:Nat)(hn:1≤n):Rn F X 0 0 [iD ints,iD tables,iD flags,iD own,.sl (dO ar),iD params,.sl (bX bs),iD left,iD n] (fun o=>∃k eQ,o=iD k::dU ints tables flags own ar params eQ left∧k<n∧eQ.length≤bs.length):=
 Pf (m:=⟨ints,tables,flags,own,ar,params,bs,left⟩) hn
theorem mW{bs:List UInt8}(h1:1≤ints)(h3:ints≤3):Rn F X 1 0 (dU ints tables flags own ar params bs left) (fun o=>∃k eQ,o= .str (nm 120 k)::dU ints tables flags own ar params eQ left∧k<ints∧eQ.length≤bs.length):=by
 refine wr rfl<|wl rfl (l4 (c:=120) (n:=3) (by omega) (by omega)) rfl<|wg 1 rfl<|wx rfl (eY ints h1) ?_;rintro _ ⟨k,eQ,rfl,hk,hb⟩;refine⟨rfl,Wp.op rfl (aB (nH (by omega)) rfl) rfl ?_⟩;exact wg 1 rfl<|wt rfl ⟨k,eQ,rfl,hk,hb⟩
def cT8(ints tables flags own:Nat)(ar:List (List Nat))(params:Nat)(bs:List UInt8)(left f:Nat)(o:List D):Prop:=∃e eQ,o=Ex.r e++dU ints tables flags own ar params eQ left∧fc ⟨ints,tables,flags,params⟩ f e∧eQ.length≤bs.length
theorem RS{k:Nat}(h:k<6):∃op,11≤op∧op≤15∧aU (.fT 1 0 1 false) [iD k,.int .i64 14,.int .i64 15,.int .i64 11,.int .i64 12,.int .i64 13,.int .i64 14]=some (iD op):=by
 have:k=0∨k=1∨k=2∨k=3∨k=4∨k=5:=by omega
 rcases this with rfl|rfl|rfl|rfl|rfl|rfl
 ·exact⟨14,by omega,by omega,rfl⟩
 ·exact⟨15,by omega,by omega,rfl⟩
 ·exact⟨11,by omega,by omega,rfl⟩
 ·exact⟨12,by omega,by omega,rfl⟩
 ·exact⟨13,by omega,by omega,rfl⟩
 ·exact⟨14,by omega,by omega,rfl⟩
theorem eX(h1:1≤ints)(h3:ints≤3)(ht:tables≤1)(hp:params≤2):∀(f d:Nat),d+f=3→∀{bs:List UInt8},Rn F X 2 0 [iD ints,iD tables,iD flags,iD own,.sl (dO ar),iD params,.sl (bX bs),iD left,iD d] (cT8 ints tables flags own ar params bs left f):=by
 intro f
 induction f with
 |zero=>
  intro d hd bs;obtain rfl:d=3:=by omega
  refine wr rfl<|wg 1 rfl<|wx rfl (eY 12 (by omega)) fun|_,⟨k,bs,rfl,hk,hb⟩=>⟨rfl,?_⟩
  refine Fc<|Wp.bh rfl ak (fun h=> ?_) (fun h=> ?_)
  ·refine wg 1 rfl<|wx rfl (eY 9 (by omega)) fun|_,⟨k,bs,rfl,hk,hb⟩=>⟨rfl,?_⟩
   exact iS<|wt rfl ⟨.mk 1 [] k [],bs,rfl,.num k (by omega),by omega⟩
  ·refine wg 1 rfl<|Wp.bh rfl c7 (fun h=> ?_) (fun h=> ?_)
   ·refine wg 1 rfl<|wx rfl (eY 9 (by omega)) fun|_,⟨k,bs,rfl,hk,hb⟩=>⟨rfl,?_⟩
    exact iS<|wt rfl ⟨.mk 1 [] k [],bs,rfl,.num k (by omega),by omega⟩
   ·refine Wp.bh rfl ak (fun h=> ?_) (fun h=> ?_)
    ·refine wg 1 rfl<|wx rfl (mW (by omega) (by omega)) fun|_,⟨k,bs,rfl,hk,hb⟩=>⟨rfl,?_⟩
     exact iS<|wt rfl ⟨.mk 5 (nm 120 k) 0 [],bs,rfl,.var k (by omega),by omega⟩
    ·refine Wp.bh rfl ay (fun h=> ?_) (fun h=> ?_)
     ·refine Wp.bh rfl ay (fun h=> ?_) (fun h=> ?_)
      ·refine wg 1 rfl<|wx rfl (mW (by omega) (by omega)) fun|_,⟨k,bs,rfl,hk,hb⟩=>⟨rfl,?_⟩
       exact iS<|wt rfl ⟨.mk 5 (nm 120 k) 0 [],bs,rfl,.var k (by omega),by omega⟩
      ·refine wy rfl ay<|wl rfl (l4 (c:=112) (n:=2) (by omega) (by omega)) rfl<|wg 1 rfl<|wx rfl (eY params (by omega)) fun|_,⟨k,bs,rfl,hk,hb⟩=>⟨rfl,?_⟩
       exact oX<|wo rfl (aB (nH (by omega)) rfl)<|wg 1 rfl<|wt rfl ⟨.mk 5 (nm 112 k) 0 [],bs,rfl,.mO k (by omega),by omega⟩
     ·exact wn rfl ay<|wy rfl ay<|wt rfl ⟨.mk 4 [] 0 [],bs,rfl,.now,by omega⟩
 |succ f ih=>
  intro d hd bs;refine wr rfl<|wg 1 rfl<|wx rfl (eY 12 (by omega)) fun|_,⟨k,bs,rfl,hk,hb⟩=>⟨rfl,?_⟩
  refine Fc<|Wp.bh rfl ak (fun h=> ?_) (fun h=> ?_)
  ·refine wg 1 rfl<|wx rfl (eY 9 (by omega)) fun|_,⟨k,bs,rfl,hk,hb⟩=>⟨rfl,?_⟩
   exact iS<|wt rfl ⟨.mk 1 [] k [],bs,rfl,.num k (by omega),by omega⟩
  ·refine wn rfl c7<|Wp.bh rfl ak (fun h=> ?_) (fun h=> ?_)
   ·refine wg 1 rfl<|wx rfl (mW (by omega) (by omega)) fun|_,⟨k,bs,rfl,hk,hb⟩=>⟨rfl,?_⟩
    exact iS<|wt rfl ⟨.mk 5 (nm 120 k) 0 [],bs,rfl,.var k (by omega),by omega⟩
   ·refine Wp.bh rfl ay (fun h=> ?_) (fun h=> ?_)
    ·refine Wp.bh rfl ay (fun h=> ?_) (fun h=> ?_)
     ·refine wg 1 rfl<|wx rfl (mW (by omega) (by omega)) fun|_,⟨k,bs,rfl,hk,hb⟩=>⟨rfl,?_⟩
      exact iS<|wt rfl ⟨.mk 5 (nm 120 k) 0 [],bs,rfl,.var k (by omega),by omega⟩
     ·refine wy rfl ay<|wl rfl (l4 (c:=112) (n:=2) (by omega) (by omega)) rfl<|wg 1 rfl<|wx rfl (eY params (by omega)) fun|_,⟨k,bs,rfl,hk,hb⟩=>⟨rfl,?_⟩
      exact oX<|wo rfl (aB (nH (by omega)) rfl)<|wg 1 rfl<|wt rfl ⟨.mk 5 (nm 112 k) 0 [],bs,rfl,.mO k (by omega),by omega⟩
    ·refine wn rfl ay<|Wp.bh rfl ay (fun h=> ?_) (fun h=> ?_)
     ·exact wt rfl ⟨.mk 4 [] 0 [],bs,rfl,.now,by omega⟩
     ·refine Wp.bh rfl ay (fun h=> ?_) (fun h=> ?_)
      ·refine Wp.bh rfl c7 (fun h=> ?_) (fun h=> ?_)
       ·refine wo rfl oI<|wg 1 rfl<|wx rfl (ih (d+1) (by omega)) fun|_,⟨⟨o1,n1,i1,a1⟩,bs,rfl,bc,cN⟩=>⟨rfl,?_⟩
        exact n5<|wg 1 rfl<|wt rfl ⟨.mk 6 (nm 116 0) 0 [⟨o1,n1,i1,a1⟩],bs,rfl,.get (by show 0<tables;omega) bc,by omega⟩
       ·refine wn rfl ay<|wn rfl ay<|wg 1 rfl<|wx rfl (eY 6 (by omega)) fun|_,⟨k,bs,rfl,hk,hb⟩=>⟨rfl,?_⟩
        refine iS<|wy rfl qK ?_
        (obtain⟨op,pX,fE,ho⟩:=RS hk;refine Wp.op rfl ho rfl ?_)
        refine wo rfl oI<|wg 1 rfl<|wx rfl (ih (d+1) (by omega)) fun|_,⟨⟨o1,n1,i1,a1⟩,bs,rfl,bc,cN⟩=>⟨rfl,?_⟩
        dsimp only [dU,Ex.r,St.r,List.cons_append,List.nil_append];refine wo rfl oI<|wg 1 rfl ?_
        (have _:=bc;refine wx rfl (ih (d+1) (by omega)) ?_;rintro _ ⟨⟨o2,n2,i2,a2⟩,bs,rfl,fW,cx⟩;refine⟨rfl,?_⟩)
        exact Mx<|wg 1 rfl<|wt rfl ⟨.mk op [] 0 [⟨o1,n1,i1,a1⟩,⟨o2,n2,i2,a2⟩],bs,rfl,.bin op pX fE bc fW,by omega⟩
      ·refine Wp.bh rfl ay (fun h=> ?_) (fun h=> ?_)
       ·refine Wp.bh rfl c7 (fun h=> ?_) (fun h=> ?_)
        ·exact wt rfl ⟨.mk 8 (nm 116 0) 0 [],bs,rfl,.size (by show 0<tables;omega),by omega⟩
        ·refine wn rfl ay<|wg 1 rfl<|wx rfl (eY 6 (by omega)) fun|_,⟨k,bs,rfl,hk,hb⟩=>⟨rfl,?_⟩
         refine iS<|wy rfl qK ?_
         (obtain⟨op,pX,fE,ho⟩:=RS hk;refine Wp.op rfl ho rfl ?_)
         refine wo rfl oI<|wg 1 rfl<|wx rfl (ih (d+1) (by omega)) fun|_,⟨⟨o1,n1,i1,a1⟩,bs,rfl,bc,cN⟩=>⟨rfl,?_⟩
         dsimp only [dU,Ex.r,St.r,List.cons_append,List.nil_append];refine wo rfl oI<|wg 1 rfl ?_
         (have _:=bc;refine wx rfl (ih (d+1) (by omega)) ?_;rintro _ ⟨⟨o2,n2,i2,a2⟩,bs,rfl,fW,cx⟩;refine⟨rfl,?_⟩)
         exact Mx<|wg 1 rfl<|wt rfl ⟨.mk op [] 0 [⟨o1,n1,i1,a1⟩,⟨o2,n2,i2,a2⟩],bs,rfl,.bin op pX fE bc fW,by omega⟩
       ·refine Wp.bh rfl ay (fun h=> ?_) (fun h=> ?_)
        ·refine wo rfl oI<|wg 1 rfl<|wx rfl (ih (d+1) (by omega)) fun|_,⟨⟨o1,n1,i1,a1⟩,bs,rfl,bc,cN⟩=>⟨rfl,?_⟩
         exact n5<|wg 1 rfl<|wt rfl ⟨.mk 9 [] 0 [⟨o1,n1,i1,a1⟩],bs,rfl,.neg bc,by omega⟩
        ·refine wg 1 rfl<|wx rfl (eY 6 (by omega)) fun|_,⟨k,bs,rfl,hk,hb⟩=>⟨rfl,?_⟩
         refine iS<|wy rfl qK ?_
         (obtain⟨op,pX,fE,ho⟩:=RS hk;refine Wp.op rfl ho rfl ?_)
         refine wo rfl oI<|wg 1 rfl<|wx rfl (ih (d+1) (by omega)) fun|_,⟨⟨o1,n1,i1,a1⟩,bs,rfl,bc,cN⟩=>⟨rfl,?_⟩
         dsimp only [dU,Ex.r,St.r,List.cons_append,List.nil_append];refine wo rfl oI<|wg 1 rfl ?_
         (have _:=bc;refine wx rfl (ih (d+1) (by omega)) ?_;rintro _ ⟨⟨o2,n2,i2,a2⟩,bs,rfl,fW,cx⟩;refine⟨rfl,?_⟩)
         exact Mx<|wg 1 rfl<|wt rfl ⟨.mk op [] 0 [⟨o1,n1,i1,a1⟩,⟨o2,n2,i2,a2⟩],bs,rfl,.bin op pX fE bc fW,by omega⟩
end
section
variable{X:Nat→List D→Option (List D)}{ints tables flags own params left:Nat}{ar:List (List Nat)}
theorem wA:∀(l:List Fl.Ex),(Ex.rs l).length=l.length
 |[]=>rfl
 |e::l=>by show(Ex.rs l).length+1=_;rw[wA l];rfl
theorem Wy:∀(l:List Fl.Ex) (e:Fl.Ex),Ex.rs l++[Ex.r e]=Ex.rs (l++[e])
 |[],e=>rfl
 |a::l,e=>by show Ex.r a::(Ex.rs l++[Ex.r e])=_;rw[Wy l e];rfl
def ac7(ints tables flags own:Nat)(ar:List (List Nat))(params:Nat)(bs:List UInt8)(left n:Nat)(o:List D):Prop:=∃es eQ,o= .sl (Ex.rs es)::dU ints tables flags own ar params eQ left∧(∀e∈es,fc ⟨ints,tables,flags,params⟩ 3 e)∧es.length=n∧eQ.length≤bs.length
theorem aG4(h1:1≤ints)(h3:ints≤3)(ht:tables≤1)(hp:params≤2){n:Nat}(hn:n≤9):∀(f:Nat) (es:List Fl.Ex) (bs:List UInt8),es.length+f=n→(∀e∈es,fc ⟨ints,tables,flags,params⟩ 3 e)→Rn F X 3 1 (iD n:: .sl (Ex.rs es)::iD es.length::dU ints tables flags own ar params bs left) (ac7 ints tables flags own ar params bs left n):=by
 intro f
 induction f with
 |zero=>
  intro es bs hf he;exact wr rfl<|wn rfl ak<|wt rfl ⟨es,bs,rfl,he,by omega,by omega⟩
 |succ f ih=>
  intro es bs hf he;refine wr rfl<|wy rfl ak<|wg 1 rfl<|wx rfl (eX h1 h3 ht hp 2 1 (by omega)) fun|_,⟨⟨o1,n1,i1,a1⟩,bs,rfl,bc,cN⟩=>⟨rfl,?_⟩
  refine qp<|wg 2 rfl<|wo rfl (gO rfl rfl (by rw[wA];omega) (by rw[wA];omega))<|wo rfl oI<|Wp.jump rfl ?_;have:=ih (es++[⟨o1,n1,i1,a1⟩]) bs (by simp;omega) (fun e h=>by
   rcases xF.1 h with h|h
   ·exact he e h
   ·rw[xy] at h;subst h;exact bc.mono (by omega))
  rw[←Wy,xa] at this;exact this.mono fun o ⟨ax,eQ,h1,h2,h3,h4⟩=>⟨ax,eQ,h1,h2,h3,by omega⟩
theorem AY(h1:1≤ints)(h3:ints≤3)(ht:tables≤1)(hp:params≤2){n:Nat}(hn:n≤9){bs:List UInt8}:Rn F X 3 0 [iD ints,iD tables,iD flags,iD own,.sl (dO ar),iD params,.sl (bX bs),iD left,iD n] (ac7 ints tables flags own ar params bs left n):=by
 refine wr rfl<|Wp.jump rfl ?_;exact aG4 h1 h3 ht hp hn n [] bs (by simp) (by simp)
def cT7(ints tables flags own:Nat)(ar:List (List Nat))(params:Nat)(bs:List UInt8)(left f:Nat)(o:List D):Prop:=∃e eQ,o=Ex.r e++dU ints tables flags own ar params eQ left∧kJ ⟨ints,tables,flags,params⟩ f e∧eQ.length≤bs.length
theorem Gb(h1:1≤ints)(h3:ints≤3)(ht:tables≤1)(bE:flags≤2)(hp:params≤2):∀(f d:Nat),d+f=2→∀{bs:List UInt8},Rn F X 4 0 [iD ints,iD tables,iD flags,iD own,.sl (dO ar),iD params,.sl (bX bs),iD left,iD d] (cT7 ints tables flags own ar params bs left (f+3)):=by
 intro f
 induction f with
 |zero=>
  intro d hd bs;obtain rfl:d=2:=by omega
  refine wr rfl<|wg 1 rfl<|wx rfl (eY 10 (by omega)) fun|_,⟨k,bs,rfl,hk,hb⟩=>⟨rfl,?_⟩
  refine Fc<|Wp.bh rfl ay (fun h=> ?_) (fun h=> ?_)
  ·refine wg 1 rfl<|wx rfl (eY 2 (by omega)) fun|_,⟨k,bs,rfl,hk,hb⟩=>⟨rfl,?_⟩
   exact iS<|wo rfl oI<|wt rfl ⟨.mk (2+k) [] 0 [],bs,rfl,.lit _ (by omega) (by omega),by omega⟩
  ·refine Wp.bh rfl ay (fun h=> ?_) (fun h=> ?_)
   ·exact wt rfl ⟨.mk 5 (nm 98 0) 0 [],bs,rfl,.b0,by omega⟩
   ·refine wg 1 rfl<|Wp.bh rfl c7 (fun h=> ?_) (fun h=> ?_)
    ·exact wt rfl ⟨.mk 5 (nm 98 0) 0 [],bs,rfl,.b0,by omega⟩
    ·refine Wp.bh rfl ay (fun h=> ?_) (fun h=> ?_)
     ·refine Wp.bh rfl c7 (fun h=> ?_) (fun h=> ?_)
      ·refine wl rfl (l4 (c:=102) (n:=2) (by omega) (by omega)) rfl<|wg 1 rfl<|wx rfl (eY flags (by omega)) fun|_,⟨k,bs,rfl,hk,hb⟩=>⟨rfl,?_⟩
       exact oX<|wo rfl (aB (nH (by omega)) rfl)<|wg 1 rfl<|wt rfl ⟨.mk 5 (nm 102 k) 0 [],bs,rfl,.flag k (by omega),by omega⟩
      ·refine wn rfl ay<|wn rfl ay<|wn rfl ay<|wn rfl ay<|wg 1 rfl<|wx rfl (eY 6 (by omega)) fun|_,⟨k,bs,rfl,hk,hb⟩=>⟨rfl,?_⟩
       refine iS<|wo rfl oI<|wg 1 rfl<|wx rfl (eX h1 h3 ht hp 2 1 (by omega)) fun|_,⟨⟨o1,n1,i1,a1⟩,bs,rfl,bc,cN⟩=>⟨rfl,?_⟩
       refine mM<|wg 1 rfl ?_
       (have _:=bc;refine wx rfl (eX h1 h3 ht hp 2 1 (by omega)) ?_;rintro _ ⟨⟨o2,n2,i2,a2⟩,bs,rfl,fW,cx⟩;refine⟨rfl,?_⟩)
       exact vG<|wg 1 rfl<|wt rfl ⟨.mk (16+k) [] 0 [⟨o1,n1,i1,a1⟩,⟨o2,n2,i2,a2⟩],bs,rfl,.cmp _ (by omega) (by omega) bc fW,by omega⟩
     ·refine Wp.bh rfl ay (fun h=> ?_) (fun h=> ?_)
      ·refine Wp.bh rfl c7 (fun h=> ?_) (fun h=> ?_)
       ·refine wg 1 rfl<|wx rfl (eX h1 h3 ht hp 2 1 (by omega)) fun|_,⟨⟨o1,n1,i1,a1⟩,bs,rfl,bc,cN⟩=>⟨rfl,?_⟩
        exact pQ<|wg 1 rfl<|wt rfl ⟨.mk 7 (nm 116 0) 0 [⟨o1,n1,i1,a1⟩],bs,rfl,.has (by show 0<tables;omega) bc,by omega⟩
       ·refine wn rfl ay<|wn rfl ay<|wn rfl ay<|wg 1 rfl<|wx rfl (eY 6 (by omega)) fun|_,⟨k,bs,rfl,hk,hb⟩=>⟨rfl,?_⟩
        refine iS<|wo rfl oI<|wg 1 rfl<|wx rfl (eX h1 h3 ht hp 2 1 (by omega)) fun|_,⟨⟨o1,n1,i1,a1⟩,bs,rfl,bc,cN⟩=>⟨rfl,?_⟩
        refine mM<|wg 1 rfl ?_
        (have _:=bc;refine wx rfl (eX h1 h3 ht hp 2 1 (by omega)) ?_;rintro _ ⟨⟨o2,n2,i2,a2⟩,bs,rfl,fW,cx⟩;refine⟨rfl,?_⟩)
        exact vG<|wg 1 rfl<|wt rfl ⟨.mk (16+k) [] 0 [⟨o1,n1,i1,a1⟩,⟨o2,n2,i2,a2⟩],bs,rfl,.cmp _ (by omega) (by omega) bc fW,by omega⟩
      ·refine wn rfl ay<|wn rfl ay<|wn rfl ay<|wg 1 rfl<|wx rfl (eY 6 (by omega)) fun|_,⟨k,bs,rfl,hk,hb⟩=>⟨rfl,?_⟩
       refine iS<|wo rfl oI<|wg 1 rfl<|wx rfl (eX h1 h3 ht hp 2 1 (by omega)) fun|_,⟨⟨o1,n1,i1,a1⟩,bs,rfl,bc,cN⟩=>⟨rfl,?_⟩
       refine mM<|wg 1 rfl ?_
       (have _:=bc;refine wx rfl (eX h1 h3 ht hp 2 1 (by omega)) ?_;rintro _ ⟨⟨o2,n2,i2,a2⟩,bs,rfl,fW,cx⟩;refine⟨rfl,?_⟩)
       exact vG<|wg 1 rfl<|wt rfl ⟨.mk (16+k) [] 0 [⟨o1,n1,i1,a1⟩,⟨o2,n2,i2,a2⟩],bs,rfl,.cmp _ (by omega) (by omega) bc fW,by omega⟩
 |succ f ih=>
  intro d hd bs;refine wr rfl<|wg 1 rfl<|wx rfl (eY 10 (by omega)) fun|_,⟨k,bs,rfl,hk,hb⟩=>⟨rfl,?_⟩
  refine Fc<|Wp.bh rfl ay (fun h=> ?_) (fun h=> ?_)
  ·refine wg 1 rfl<|wx rfl (eY 2 (by omega)) fun|_,⟨k,bs,rfl,hk,hb⟩=>⟨rfl,?_⟩
   exact iS<|wo rfl oI<|wt rfl ⟨.mk (2+k) [] 0 [],bs,rfl,.lit _ (by omega) (by omega),by omega⟩
  ·refine Wp.bh rfl ay (fun h=> ?_) (fun h=> ?_)
   ·exact wt rfl ⟨.mk 5 (nm 98 0) 0 [],bs,rfl,.b0,by omega⟩
   ·refine wn rfl c7<|Wp.bh rfl ay (fun h=> ?_) (fun h=> ?_)
    ·refine Wp.bh rfl c7 (fun h=> ?_) (fun h=> ?_)
     ·refine wl rfl (l4 (c:=102) (n:=2) (by omega) (by omega)) rfl<|wg 1 rfl<|wx rfl (eY flags (by omega)) fun|_,⟨k,bs,rfl,hk,hb⟩=>⟨rfl,?_⟩
      exact oX<|wo rfl (aB (nH (by omega)) rfl)<|wg 1 rfl<|wt rfl ⟨.mk 5 (nm 102 k) 0 [],bs,rfl,.flag k (by omega),by omega⟩
     ·refine wn rfl ay<|wn rfl ay<|wn rfl ay<|wn rfl ay<|wg 1 rfl<|wx rfl (eY 6 (by omega)) fun|_,⟨k,bs,rfl,hk,hb⟩=>⟨rfl,?_⟩
      refine iS<|wo rfl oI<|wg 1 rfl<|wx rfl (eX h1 h3 ht hp 2 1 (by omega)) fun|_,⟨⟨o1,n1,i1,a1⟩,bs,rfl,bc,cN⟩=>⟨rfl,?_⟩
      refine mM<|wg 1 rfl ?_
      (have _:=bc;refine wx rfl (eX h1 h3 ht hp 2 1 (by omega)) ?_;rintro _ ⟨⟨o2,n2,i2,a2⟩,bs,rfl,fW,cx⟩;refine⟨rfl,?_⟩)
      exact vG<|wg 1 rfl<|wt rfl ⟨.mk (16+k) [] 0 [⟨o1,n1,i1,a1⟩,⟨o2,n2,i2,a2⟩],bs,rfl,.cmp _ (by omega) (by omega) (bc.mono (by omega)) (fW.mono (by omega)),by omega⟩
    ·refine Wp.bh rfl ay (fun h=> ?_) (fun h=> ?_)
     ·refine Wp.bh rfl c7 (fun h=> ?_) (fun h=> ?_)
      ·refine wg 1 rfl<|wx rfl (eX h1 h3 ht hp 2 1 (by omega)) fun|_,⟨⟨o1,n1,i1,a1⟩,bs,rfl,bc,cN⟩=>⟨rfl,?_⟩
       exact pQ<|wg 1 rfl<|wt rfl ⟨.mk 7 (nm 116 0) 0 [⟨o1,n1,i1,a1⟩],bs,rfl,.has (by show 0<tables;omega) (bc.mono (by omega)),by omega⟩
      ·refine wn rfl ay<|wn rfl ay<|wn rfl ay<|wg 1 rfl<|wx rfl (eY 6 (by omega)) fun|_,⟨k,bs,rfl,hk,hb⟩=>⟨rfl,?_⟩
       refine iS<|wo rfl oI<|wg 1 rfl<|wx rfl (eX h1 h3 ht hp 2 1 (by omega)) fun|_,⟨⟨o1,n1,i1,a1⟩,bs,rfl,bc,cN⟩=>⟨rfl,?_⟩
       refine mM<|wg 1 rfl ?_
       (have _:=bc;refine wx rfl (eX h1 h3 ht hp 2 1 (by omega)) ?_;rintro _ ⟨⟨o2,n2,i2,a2⟩,bs,rfl,fW,cx⟩;refine⟨rfl,?_⟩)
       exact vG<|wg 1 rfl<|wt rfl ⟨.mk (16+k) [] 0 [⟨o1,n1,i1,a1⟩,⟨o2,n2,i2,a2⟩],bs,rfl,.cmp _ (by omega) (by omega) (bc.mono (by omega)) (fW.mono (by omega)),by omega⟩
     ·refine Wp.bh rfl ay (fun h=> ?_) (fun h=> ?_)
      ·refine wo rfl oI<|wg 1 rfl<|wx rfl (ih (d+1) (by omega)) fun|_,⟨⟨o1,n1,i1,a1⟩,bs,rfl,bc,cN⟩=>⟨rfl,?_⟩
       exact n5<|wg 1 rfl<|wt rfl ⟨.mk 10 [] 0 [⟨o1,n1,i1,a1⟩],bs,rfl,.not bc,by omega⟩
      ·refine Wp.bh rfl ay (fun h=> ?_) (fun h=> ?_)
       ·refine wo rfl oI<|wg 1 rfl<|wx rfl (ih (d+1) (by omega)) fun|_,⟨⟨o1,n1,i1,a1⟩,bs,rfl,bc,cN⟩=>⟨rfl,?_⟩
        refine n5<|wo rfl oI<|wo rfl oI<|wg 1 rfl ?_
        (have _:=bc;refine wx rfl (ih (d+1) (by omega)) ?_;rintro _ ⟨⟨o2,n2,i2,a2⟩,bs,rfl,fW,cx⟩;refine⟨rfl,?_⟩)
        dsimp only [dU,Ex.r,St.r,List.cons_append,List.nil_append];exact wg 1 rfl<|wt rfl ⟨.mk (16+k) [] 0 [⟨o1,n1,i1,a1⟩,⟨o2,n2,i2,a2⟩],bs,rfl,.I8 _ (by omega) (by omega) bc fW,by omega⟩
       ·refine Wp.bh rfl ay (fun h=> ?_) (fun h=> ?_)
        ·refine wo rfl oI<|wg 1 rfl<|wx rfl (ih (d+1) (by omega)) fun|_,⟨⟨o1,n1,i1,a1⟩,bs,rfl,bc,cN⟩=>⟨rfl,?_⟩
         refine n5<|wo rfl oI<|wo rfl oI<|wg 1 rfl ?_
         (have _:=bc;refine wx rfl (ih (d+1) (by omega)) ?_;rintro _ ⟨⟨o2,n2,i2,a2⟩,bs,rfl,fW,cx⟩;refine⟨rfl,?_⟩)
         dsimp only [dU,Ex.r,St.r,List.cons_append,List.nil_append];exact wg 1 rfl<|wt rfl ⟨.mk (16+k) [] 0 [⟨o1,n1,i1,a1⟩,⟨o2,n2,i2,a2⟩],bs,rfl,.I8 _ (by omega) (by omega) bc fW,by omega⟩
        ·refine wg 1 rfl<|wx rfl (eY 6 (by omega)) fun|_,⟨k,bs,rfl,hk,hb⟩=>⟨rfl,?_⟩
         refine iS<|wo rfl oI<|wg 1 rfl<|wx rfl (eX h1 h3 ht hp 2 1 (by omega)) fun|_,⟨⟨o1,n1,i1,a1⟩,bs,rfl,bc,cN⟩=>⟨rfl,?_⟩
         refine mM<|wg 1 rfl ?_
         (have _:=bc;refine wx rfl (eX h1 h3 ht hp 2 1 (by omega)) ?_;rintro _ ⟨⟨o2,n2,i2,a2⟩,bs,rfl,fW,cx⟩;refine⟨rfl,?_⟩)
         exact vG<|wg 1 rfl<|wt rfl ⟨.mk (16+k) [] 0 [⟨o1,n1,i1,a1⟩,⟨o2,n2,i2,a2⟩],bs,rfl,.cmp _ (by omega) (by omega) (bc.mono (by omega)) (fW.mono (by omega)),by omega⟩
end
end Go.Proofs.YtaginlnifpbfgaaGreatDoor
namespace Go.Fl
mutual
def St.n:St→Nat| .mk _ _ _ _ th el=>1+St.ns th+St.ns el
def St.ns:List St→Nat|[]=>0|s::l=>St.n s+St.ns l
end
def St.sub:St→Nat| .mk _ _ _ _ th el=>St.ns th+St.ns el
end Go.Fl
namespace Go.Proofs.YtaginlnifpbfgaaGreatDoor
open Go.Ex Go.RowKit Go.Fl
section
variable{X:Nat→List D→Option (List D)}{ints tables flags own params:Nat}{ar:List (List Nat)}
theorem JM:∀(l:List St),(St.rs l).length=l.length
 |[]=>rfl
 |e::l=>by show(St.rs l).length+1=_;rw[JM l];rfl
theorem VM:∀(l:List St) (e:St),St.rs l++[St.r e]=St.rs (l++[e])
 |[],e=>rfl
 |a::l,e=>by show St.r a::(St.rs l++[St.r e])=_;rw[VM l e];rfl
theorem Pc:∀(l:List St) (e:St),St.ns (l++[e])=St.ns l+(1+St.sub e)
 |[],.mk .. =>by simp[St.ns,St.n,St.sub];omega
 |a::l,e=>by simp[St.ns,Pc l e];omega
theorem ot:∀(l:List St),l.length≤St.ns l
 |[]=>xk _
 | .mk .. ::l=>by have:=ot l;simp[St.ns,St.n];omega
theorem Wz(l:List Fl.Ex):∀row∈Ex.rs l,row.length=4∧row.all D.cell=true:=by
 induction l with
 |nil=>intro row h;cases h
 |cons e l ih=>
  obtain⟨op,nm,n,a⟩:=e;intro row h;rcases xG.1 h with rfl|h
  ·exact⟨rfl,rfl⟩
  ·exact ih row h
def kO(l:List Nat):List (List D):=l.map fun n=>[iD n]
theorem Bh(ar:List (List Nat)):(dO ar).length=ar.length:=xm _
theorem BV{k:Nat}(h:k<(dO ar).length)(cP:∀l∈ar,1≤l.length∧l.length≤3∧∀n∈l,n≤2):∃l,ar[k]? =some l∧(dO ar)[k]? =some [.sl (kO l)]∧1≤(kO l).length∧(kO l).length≤3∧∀n∈l,n≤2:=by
 have hk:k<ar.length:=by rw[←Bh];exact h
 have he:ar[k]? =some ar[k]:=xc hk;refine⟨ar[k],he,?_,?_⟩
 ·show(ar.map _)[k]? =_;rw[xx,he];rfl
 ·have:=cP ar[k] (List.getElem_mem hk);rw[show(kO ar[k]).length=ar[k].length from xm _];exact this
theorem Bv{l:List Nat}{k:Nat}(h:k<(kO l).length)(hl:∀n∈l,n≤2):∃n,l[k]? =some n∧(kO l)[k]? =some [iD n]∧n≤2:=by
 have hk:k<l.length:=by rw[←show(kO l).length=l.length from xm _];exact h
 have he:l[k]? =some l[k]:=xc hk;refine⟨l[k],he,?_,hl _ (List.getElem_mem hk)⟩;show(l.map _)[k]? =_;rw[xx,he];rfl
theorem LU{α:Type}:∀{l:List α},l.length=2→∃a b,l=[a,b]
 |[a,b],_=>⟨a,b,rfl⟩
theorem HU{k:Nat}(h:k<3):aU (.fT 1 0 1 false) [iD k,.str [97],.str [98],.str [99]]=some (.str [(97+k).toUInt8]):=by
 have:k=0∨k=1∨k=2:=by omega
 rcases this with rfl|rfl|rfl<;>rfl
def cv4(ints tables flags own:Nat)(ar:List (List Nat))(params:Nat)(bs:List UInt8)(left f:Nat)(o:List D):Prop:=∃s eQ qc,o=St.r s++dU ints tables flags own ar params eQ qc∧mL ⟨⟨ints,tables,flags,params⟩,ar,own⟩ (l9 ⟨⟨ints,tables,flags,params⟩,ar,own⟩ f) s∧eQ.length≤bs.length∧qc+St.sub s≤left
def Rz(ints tables flags own:Nat)(ar:List (List Nat))(params:Nat)(bs:List UInt8)(left f:Nat)(o:List D):Prop:=∃l eQ qc,o= .sl (St.rs l)::dU ints tables flags own ar params eQ qc∧l9 ⟨⟨ints,tables,flags,params⟩,ar,own⟩ (f+1) l∧eQ.length≤bs.length∧qc+St.ns l≤left
theorem bc3(h1:1≤ints)(h3:ints≤3)(ht:tables≤1)(bE:flags≤2)(hp:params≤2)(jJ:own<(dO ar).length)(gm:(dO ar).length≤3)(cP:∀l∈ar,1≤l.length∧l.length≤3∧∀n∈l,n≤2){L:Nat}
 (ih:∀(d f:Nat),d+f=3→∀(bs:List UInt8) (left:Nat),left≤L→Rn F X 6 0 [iD ints,iD tables,iD flags,iD own,.sl (dO ar),iD params,.sl (bX bs),iD left,iD d] (Rz ints tables flags own ar params bs left f)):
 ∀(d f:Nat),d+f=3→∀(kk:Nat) (bs:List UInt8) (left:Nat),kk<14→left≤L→Rn F X 5 0 [iD ints,iD tables,iD flags,iD own,.sl (dO ar),iD params,.sl (bX bs),iD left,iD kk,iD d] (cv4 ints tables flags own ar params bs left f):=by
 intro d f hd kk bs left jy di2;cases f with
 |zero=>
  refine wr rfl<|Wp.bh rfl ay (fun h=> ?_) (fun h=> ?_)
  ·refine wg 1 rfl<|wx rfl (Gb h1 h3 ht bE hp 2 0 (by omega)) fun|_,⟨⟨o1,n1,i1,a1⟩,bs,rfl,bc,cN⟩=>⟨rfl,?_⟩
   exact js<|wg 1 rfl<|wt rfl ⟨.mk 1 (nm 98 0) [] [⟨o1,n1,i1,a1⟩] [] [],bs,left,rfl,.EA bc,by omega,by simp[St.sub,St.ns]⟩
  ·refine Wp.bh rfl ay (fun h=> ?_) (fun h=> ?_)
   ·refine Wp.bh rfl c7 (fun h=> ?_) (fun h=> ?_)
    ·refine wg 1 rfl<|wx rfl (eX h1 h3 ht hp 3 0 (by omega)) fun|_,⟨⟨o1,n1,i1,a1⟩,bs,rfl,bc,cN⟩=>⟨rfl,?_⟩
     refine js<|wg 1 rfl ?_
     (have _:=bc;refine wx rfl (eX h1 h3 ht hp 3 0 (by omega)) ?_;rintro _ ⟨⟨o2,n2,i2,a2⟩,bs,rfl,fW,cx⟩;refine⟨rfl,?_⟩)
     exact Mz<|wg 1 rfl<|wt rfl ⟨.mk 2 (nm 116 0) [] [⟨o1,n1,i1,a1⟩,⟨o2,n2,i2,a2⟩] [] [],bs,left,rfl,.put (by show 0<tables;omega) bc fW,by omega,by simp[St.sub,St.ns]⟩
    ·refine wn rfl ay<|wn rfl ay<|wn rfl ay<|wn rfl ay<|wn rfl ay<|wn rfl ay<|wn rfl ay<|wn rfl ay<|wn rfl ay<|wg 1 rfl<|wx rfl (mW (by omega) (by omega)) fun|_,⟨ki,bs,rfl,gz,hb⟩=>⟨rfl,?_⟩
     refine fZ<|wg 1 rfl<|wx rfl (eX h1 h3 ht hp 3 0 (by omega)) fun|_,⟨⟨o1,n1,i1,a1⟩,bs,rfl,bc,cN⟩=>⟨rfl,?_⟩
     exact n5<|wg 1 rfl<|wt rfl ⟨.mk 1 (nm 120 ki) [] [⟨o1,n1,i1,a1⟩] [] [],bs,left,rfl,.nP ki gz bc,by omega,by simp[St.sub,St.ns]⟩
   ·refine Wp.bh rfl ay (fun h=> ?_) (fun h=> ?_)
    ·refine Wp.bh rfl c7 (fun h=> ?_) (fun h=> ?_)
     ·refine wg 1 rfl<|wx rfl (eX h1 h3 ht hp 3 0 (by omega)) fun|_,⟨⟨o1,n1,i1,a1⟩,bs,rfl,bc,cN⟩=>⟨rfl,?_⟩
      exact js<|wg 1 rfl<|wt rfl ⟨.mk 3 (nm 116 0) [] [⟨o1,n1,i1,a1⟩] [] [],bs,left,rfl,.del (by show 0<tables;omega) bc,by omega,by simp[St.sub,St.ns]⟩
     ·refine wn rfl ay<|wn rfl ay<|wn rfl ay<|wn rfl ay<|wn rfl ay<|wn rfl ay<|wn rfl ay<|wn rfl ay<|wg 1 rfl<|wx rfl (mW (by omega) (by omega)) fun|_,⟨ki,bs,rfl,gz,hb⟩=>⟨rfl,?_⟩
      refine fZ<|wg 1 rfl<|wx rfl (eX h1 h3 ht hp 3 0 (by omega)) fun|_,⟨⟨o1,n1,i1,a1⟩,bs,rfl,bc,cN⟩=>⟨rfl,?_⟩
      exact n5<|wg 1 rfl<|wt rfl ⟨.mk 1 (nm 120 ki) [] [⟨o1,n1,i1,a1⟩] [] [],bs,left,rfl,.nP ki gz bc,by omega,by simp[St.sub,St.ns]⟩
    ·refine Wp.bh rfl ay (fun h=> ?_) (fun h=> ?_)
     ·refine wn rfl ak<|wn rfl ay<|wn rfl ay<|wn rfl ay<|wn rfl ay<|wn rfl ay<|wn rfl ay<|wg 1 rfl<|wx rfl (mW (by omega) (by omega)) fun|_,⟨ki,bs,rfl,gz,hb⟩=>⟨rfl,?_⟩
      refine fZ<|wg 1 rfl<|wx rfl (eX h1 h3 ht hp 3 0 (by omega)) fun|_,⟨⟨o1,n1,i1,a1⟩,bs,rfl,bc,cN⟩=>⟨rfl,?_⟩
      exact n5<|wg 1 rfl<|wt rfl ⟨.mk 1 (nm 120 ki) [] [⟨o1,n1,i1,a1⟩] [] [],bs,left,rfl,.nP ki gz bc,by omega,by simp[St.sub,St.ns]⟩
     ·refine Wp.bh rfl ay (fun h=> ?_) (fun h=> ?_)
      ·refine wn rfl ak<|wn rfl ay<|wn rfl ay<|wn rfl ay<|wn rfl ay<|wn rfl ay<|wn rfl ay<|wg 1 rfl<|wx rfl (mW (by omega) (by omega)) fun|_,⟨ki,bs,rfl,gz,hb⟩=>⟨rfl,?_⟩
       refine fZ<|wg 1 rfl<|wx rfl (eX h1 h3 ht hp 3 0 (by omega)) fun|_,⟨⟨o1,n1,i1,a1⟩,bs,rfl,bc,cN⟩=>⟨rfl,?_⟩
       exact n5<|wg 1 rfl<|wt rfl ⟨.mk 1 (nm 120 ki) [] [⟨o1,n1,i1,a1⟩] [] [],bs,left,rfl,.nP ki gz bc,by omega,by simp[St.sub,St.ns]⟩
      ·refine Wp.bh rfl ay (fun h=> ?_) (fun h=> ?_)
       ·refine wn rfl ak<|wn rfl ay<|wn rfl ay<|wn rfl ay<|wn rfl ay<|wn rfl ay<|wg 1 rfl<|wx rfl (mW (by omega) (by omega)) fun|_,⟨ki,bs,rfl,gz,hb⟩=>⟨rfl,?_⟩
        refine fZ<|wg 1 rfl<|wx rfl (eX h1 h3 ht hp 3 0 (by omega)) fun|_,⟨⟨o1,n1,i1,a1⟩,bs,rfl,bc,cN⟩=>⟨rfl,?_⟩
        exact n5<|wg 1 rfl<|wt rfl ⟨.mk 1 (nm 120 ki) [] [⟨o1,n1,i1,a1⟩] [] [],bs,left,rfl,.nP ki gz bc,by omega,by simp[St.sub,St.ns]⟩
       ·refine Wp.bh rfl ay (fun h=> ?_) (fun h=> ?_)
        ·refine wo rfl bf<|wg 1 rfl<|wx rfl (eY (dO ar).length (by omega)) fun|_,⟨to,bs,rfl,uE,hb⟩=>⟨rfl,?_⟩
         refine lG ?_
         (obtain⟨l,hl,jR,fq,dN,bG⟩:=BV uE cP;refine Wp.op rfl (aB jR rfl) rfl ?_)
         refine wg 1 rfl<|wo rfl bf<|wg 1 rfl<|wx rfl (eY (kO l).length (by omega)) fun|_,⟨hh,bs,rfl,uM,hb⟩=>⟨rfl,?_⟩
         refine hZ<|Wp.fR rfl (qK (n:=3)) (xK uE gm)<|wo rfl (HU (by omega))<|wo rfl (aB (by assumption) rfl)<|wg 1 rfl ?_
         (obtain⟨n,hn,pZ,jk⟩:=Bv uM bG;refine Wp.op rfl (aB pZ rfl) rfl ?_)
         refine wg 1 rfl<|wl rfl (l4 (c:=104) (n:=3) (by omega) (by omega)) rfl<|wo rfl (aB (nH (by omega)) rfl)<|wg 2 rfl<|wx rfl (AY h1 h3 ht hp (n:=n) (by omega)) fun|_,⟨es,bs,rfl,cz,fF,cx⟩=>⟨rfl,?_⟩
         exact My<|wt rfl ⟨.mk 6 [(97+to).toUInt8] (nm 104 hh) es [] [],bs,left,rfl,.send to hh n hl hn cz fF,by omega,by simp[St.sub,St.ns]⟩
        ·refine Wp.bh rfl ay (fun h=> ?_) (fun h=> ?_)
         ·refine wo rfl bf<|wg 1 rfl<|wx rfl (eY (dO ar).length (by omega)) fun|_,⟨to,bs,rfl,uE,hb⟩=>⟨rfl,?_⟩
          refine lG ?_
          (obtain⟨l,hl,jR,fq,dN,bG⟩:=BV uE cP;refine Wp.op rfl (aB jR rfl) rfl ?_)
          refine wg 1 rfl<|wo rfl bf<|wg 1 rfl<|wx rfl (eY (kO l).length (by omega)) fun|_,⟨hh,bs,rfl,uM,hb⟩=>⟨rfl,?_⟩
          refine hZ<|Wp.fR rfl (qK (n:=3)) (xK uE gm)<|wo rfl (HU (by omega))<|wo rfl (aB (by assumption) rfl)<|wg 1 rfl ?_
          (obtain⟨n,hn,pZ,jk⟩:=Bv uM bG;refine Wp.op rfl (aB pZ rfl) rfl ?_)
          refine wg 1 rfl<|wl rfl (l4 (c:=104) (n:=3) (by omega) (by omega)) rfl<|wo rfl (aB (nH (by omega)) rfl)<|wg 2 rfl<|wx rfl (AY h1 h3 ht hp (n:=n) (by omega)) fun|_,⟨es,bs,rfl,cz,fF,cx⟩=>⟨rfl,?_⟩
          exact My<|wt rfl ⟨.mk 6 [(97+to).toUInt8] (nm 104 hh) es [] [],bs,left,rfl,.send to hh n hl hn cz fF,by omega,by simp[St.sub,St.ns]⟩
         ·refine Wp.bh rfl ay (fun h=> ?_) (fun h=> ?_)
          ·(obtain⟨l,hl,jR,fq,dN,bG⟩:=BV jJ cP;refine Wp.op rfl (aB jR rfl) rfl ?_)
           refine wg 1 rfl<|wo rfl bf<|wg 1 rfl<|wx rfl (eY (kO l).length (by omega)) fun|_,⟨hh,bs,rfl,uM,hb⟩=>⟨rfl,?_⟩
           refine js<|wg 1 rfl<|wx rfl (eX h1 h3 ht hp 2 1 (by omega)) fun|_,⟨⟨o1,n1,i1,a1⟩,bs,rfl,bc,cN⟩=>⟨rfl,?_⟩
           refine Mz<|wo rfl (aB (by assumption) rfl)<|wg 1 rfl ?_
           (obtain⟨n,hn,pZ,jk⟩:=Bv uM bG;refine Wp.op rfl (aB pZ rfl) rfl ?_)
           refine wg 1 rfl<|wl rfl (l4 (c:=104) (n:=3) (by omega) (by omega)) rfl<|wo rfl (aB (nH (by omega)) rfl)<|wg 2 rfl<|wx rfl (AY h1 h3 ht hp (n:=n) (by omega)) fun|_,⟨es,bs,rfl,cz,fF,cx⟩=>⟨rfl,?_⟩
           dsimp only [dU,Ex.r,St.r,List.cons_append,List.nil_append];exact wg 1 rfl<|wo rfl (GK (Wz _) (by rw[wA,fF];show 1+n≤_;omega) (by rw[wA,fF];show(1+n)*56≤_;omega))<|wt rfl ⟨.mk 7 [] (nm 104 hh) (⟨o1,n1,i1,a1⟩::es) [] [],bs,left,rfl,.E7 hh n hl hn (fun e h=>by rcases xG.1 h with rfl|h;exact bc.mono (by omega);exact cz e h) (by rw[xi,fF]),by omega,by simp[St.sub,St.ns]⟩
          ·refine Wp.bh rfl ay (fun h=> ?_) (fun h=> ?_)
           ·refine wn rfl ak<|wn rfl ay<|wg 1 rfl<|wx rfl (mW (by omega) (by omega)) fun|_,⟨ki,bs,rfl,gz,hb⟩=>⟨rfl,?_⟩
            refine fZ<|wg 1 rfl<|wx rfl (eX h1 h3 ht hp 3 0 (by omega)) fun|_,⟨⟨o1,n1,i1,a1⟩,bs,rfl,bc,cN⟩=>⟨rfl,?_⟩
            exact n5<|wg 1 rfl<|wt rfl ⟨.mk 1 (nm 120 ki) [] [⟨o1,n1,i1,a1⟩] [] [],bs,left,rfl,.nP ki gz bc,by omega,by simp[St.sub,St.ns]⟩
           ·refine Wp.bh rfl ay (fun h=> ?_) (fun h=> ?_)
            ·refine wg 1 rfl<|wx rfl (eY 3 (by omega)) fun|_,⟨k,bs,rfl,hk,hb⟩=>⟨rfl,?_⟩
             refine fZ<|Wp.bh rfl ay (fun h=> ?_) (fun h=> ?_)
             ·exact wt rfl ⟨.mk 10 [] [] [] [] [],bs,left,rfl,.stop,by omega,by simp[St.sub,St.ns]⟩
             ·refine wg 1 rfl<|wx rfl (mW (by omega) (by omega)) fun|_,⟨ki,bs,rfl,gz,hb⟩=>⟨rfl,?_⟩
              refine oX<|wg 1 rfl<|wx rfl (eX h1 h3 ht hp 3 0 (by omega)) fun|_,⟨⟨o1,n1,i1,a1⟩,bs,rfl,bc,cN⟩=>⟨rfl,?_⟩
              exact mM<|wg 1 rfl<|wt rfl ⟨.mk 1 (nm 120 ki) [] [⟨o1,n1,i1,a1⟩] [] [],bs,left,rfl,.nP ki gz bc,by omega,by simp[St.sub,St.ns]⟩
            ·refine wg 1 rfl<|wx rfl (mW (by omega) (by omega)) fun|_,⟨ki,bs,rfl,gz,hb⟩=>⟨rfl,?_⟩
             refine fZ<|wg 1 rfl<|wx rfl (eX h1 h3 ht hp 3 0 (by omega)) fun|_,⟨⟨o1,n1,i1,a1⟩,bs,rfl,bc,cN⟩=>⟨rfl,?_⟩
             exact n5<|wg 1 rfl<|wt rfl ⟨.mk 1 (nm 120 ki) [] [⟨o1,n1,i1,a1⟩] [] [],bs,left,rfl,.nP ki gz bc,by omega,by simp[St.sub,St.ns]⟩
 |succ f=>
  refine wr rfl<|Wp.bh rfl ay (fun h=> ?_) (fun h=> ?_)
  ·refine wg 1 rfl<|wx rfl (Gb h1 h3 ht bE hp 2 0 (by omega)) fun|_,⟨⟨o1,n1,i1,a1⟩,bs,rfl,bc,cN⟩=>⟨rfl,?_⟩
   exact js<|wg 1 rfl<|wt rfl ⟨.mk 1 (nm 98 0) [] [⟨o1,n1,i1,a1⟩] [] [],bs,left,rfl,.EA bc,by omega,by simp[St.sub,St.ns]⟩
  ·refine Wp.bh rfl ay (fun h=> ?_) (fun h=> ?_)
   ·refine Wp.bh rfl c7 (fun h=> ?_) (fun h=> ?_)
    ·refine wg 1 rfl<|wx rfl (eX h1 h3 ht hp 3 0 (by omega)) fun|_,⟨⟨o1,n1,i1,a1⟩,bs,rfl,bc,cN⟩=>⟨rfl,?_⟩
     refine js<|wg 1 rfl ?_
     (have _:=bc;refine wx rfl (eX h1 h3 ht hp 3 0 (by omega)) ?_;rintro _ ⟨⟨o2,n2,i2,a2⟩,bs,rfl,fW,cx⟩;refine⟨rfl,?_⟩)
     exact Mz<|wg 1 rfl<|wt rfl ⟨.mk 2 (nm 116 0) [] [⟨o1,n1,i1,a1⟩,⟨o2,n2,i2,a2⟩] [] [],bs,left,rfl,.put (by show 0<tables;omega) bc fW,by omega,by simp[St.sub,St.ns]⟩
    ·refine wn rfl ay<|wn rfl ay<|wn rfl ay<|wn rfl ay<|wn rfl ay<|wn rfl ay<|wn rfl ay<|wn rfl ay<|wn rfl ay<|wg 1 rfl<|wx rfl (mW (by omega) (by omega)) fun|_,⟨ki,bs,rfl,gz,hb⟩=>⟨rfl,?_⟩
     refine fZ<|wg 1 rfl<|wx rfl (eX h1 h3 ht hp 3 0 (by omega)) fun|_,⟨⟨o1,n1,i1,a1⟩,bs,rfl,bc,cN⟩=>⟨rfl,?_⟩
     exact n5<|wg 1 rfl<|wt rfl ⟨.mk 1 (nm 120 ki) [] [⟨o1,n1,i1,a1⟩] [] [],bs,left,rfl,.nP ki gz bc,by omega,by simp[St.sub,St.ns]⟩
   ·refine Wp.bh rfl ay (fun h=> ?_) (fun h=> ?_)
    ·refine Wp.bh rfl c7 (fun h=> ?_) (fun h=> ?_)
     ·refine wg 1 rfl<|wx rfl (eX h1 h3 ht hp 3 0 (by omega)) fun|_,⟨⟨o1,n1,i1,a1⟩,bs,rfl,bc,cN⟩=>⟨rfl,?_⟩
      exact js<|wg 1 rfl<|wt rfl ⟨.mk 3 (nm 116 0) [] [⟨o1,n1,i1,a1⟩] [] [],bs,left,rfl,.del (by show 0<tables;omega) bc,by omega,by simp[St.sub,St.ns]⟩
     ·refine wn rfl ay<|wn rfl ay<|wn rfl ay<|wn rfl ay<|wn rfl ay<|wn rfl ay<|wn rfl ay<|wn rfl ay<|wg 1 rfl<|wx rfl (mW (by omega) (by omega)) fun|_,⟨ki,bs,rfl,gz,hb⟩=>⟨rfl,?_⟩
      refine fZ<|wg 1 rfl<|wx rfl (eX h1 h3 ht hp 3 0 (by omega)) fun|_,⟨⟨o1,n1,i1,a1⟩,bs,rfl,bc,cN⟩=>⟨rfl,?_⟩
      exact n5<|wg 1 rfl<|wt rfl ⟨.mk 1 (nm 120 ki) [] [⟨o1,n1,i1,a1⟩] [] [],bs,left,rfl,.nP ki gz bc,by omega,by simp[St.sub,St.ns]⟩
    ·refine Wp.bh rfl ay (fun h=> ?_) (fun h=> ?_)
     ·refine wy rfl ak<|wg 1 rfl<|wx rfl (Gb h1 h3 ht bE hp 2 0 (by omega)) fun|_,⟨⟨o1,n1,i1,a1⟩,bs,rfl,bc,cN⟩=>⟨rfl,?_⟩
      refine js<|wo rfl oI<|wg 1 rfl<|wx rfl (ih (d+1) f (by omega) _ _ (by omega)) fun|_,⟨th,bs,left,rfl,lT,L7,L6⟩=>⟨rfl,?_⟩
      refine hZ<|wo rfl oI<|wg 1 rfl ?_
      (have _:=lT;refine wx rfl (ih (d+1) f (by omega) _ _ (by omega)) ?_;rintro _ ⟨el,bs,left,rfl,fF,cP5,cP4⟩;refine⟨rfl,?_⟩)
      dsimp only [dU,Ex.r,St.r,List.cons_append,List.nil_append];exact wg 1 rfl<|wt rfl ⟨.mk 4 [] [] [⟨o1,n1,i1,a1⟩] th el,bs,left,rfl,.cond bc lT fF,by omega,by show _+(St.ns th+St.ns el)≤_;omega⟩
     ·refine Wp.bh rfl ay (fun h=> ?_) (fun h=> ?_)
      ·refine wy rfl ak<|wg 1 rfl<|wx rfl (Gb h1 h3 ht bE hp 2 0 (by omega)) fun|_,⟨⟨o1,n1,i1,a1⟩,bs,rfl,bc,cN⟩=>⟨rfl,?_⟩
       refine js<|wo rfl oI<|wg 1 rfl<|wx rfl (ih (d+1) f (by omega) _ _ (by omega)) fun|_,⟨th,bs,left,rfl,lT,L7,L6⟩=>⟨rfl,?_⟩
       refine hZ<|wo rfl oI<|wg 1 rfl ?_
       (have _:=lT;refine wx rfl (ih (d+1) f (by omega) _ _ (by omega)) ?_;rintro _ ⟨el,bs,left,rfl,fF,cP5,cP4⟩;refine⟨rfl,?_⟩)
       dsimp only [dU,Ex.r,St.r,List.cons_append,List.nil_append];exact wg 1 rfl<|wt rfl ⟨.mk 4 [] [] [⟨o1,n1,i1,a1⟩] th el,bs,left,rfl,.cond bc lT fF,by omega,by show _+(St.ns th+St.ns el)≤_;omega⟩
      ·refine Wp.bh rfl ay (fun h=> ?_) (fun h=> ?_)
       ·refine Wp.bh rfl ak (fun h=> ?_) (fun h=> ?_)
        ·refine wg 1 rfl<|wx rfl (Gb h1 h3 ht bE hp 2 0 (by omega)) fun|_,⟨⟨o1,n1,i1,a1⟩,bs,rfl,bc,cN⟩=>⟨rfl,?_⟩
         refine js<|wo rfl oI<|wg 1 rfl<|wx rfl (ih (d+1) f (by omega) _ _ (by omega)) fun|_,⟨th,bs,left,rfl,lT,L7,L6⟩=>⟨rfl,?_⟩
         exact hZ<|wg 1 rfl<|wt rfl ⟨.mk 5 [] [] [⟨o1,n1,i1,a1⟩] th [],bs,left,rfl,.HJ bc lT,by omega,by show _+(St.ns th+0)≤_;omega⟩
        ·refine wn rfl ay<|wn rfl ay<|wn rfl ay<|wn rfl ay<|wn rfl ay<|wg 1 rfl<|wx rfl (mW (by omega) (by omega)) fun|_,⟨ki,bs,rfl,gz,hb⟩=>⟨rfl,?_⟩
         refine fZ<|wg 1 rfl<|wx rfl (eX h1 h3 ht hp 3 0 (by omega)) fun|_,⟨⟨o1,n1,i1,a1⟩,bs,rfl,bc,cN⟩=>⟨rfl,?_⟩
         exact n5<|wg 1 rfl<|wt rfl ⟨.mk 1 (nm 120 ki) [] [⟨o1,n1,i1,a1⟩] [] [],bs,left,rfl,.nP ki gz bc,by omega,by simp[St.sub,St.ns]⟩
       ·refine Wp.bh rfl ay (fun h=> ?_) (fun h=> ?_)
        ·refine wo rfl bf<|wg 1 rfl<|wx rfl (eY (dO ar).length (by omega)) fun|_,⟨to,bs,rfl,uE,hb⟩=>⟨rfl,?_⟩
         refine lG ?_
         (obtain⟨l,hl,jR,fq,dN,bG⟩:=BV uE cP;refine Wp.op rfl (aB jR rfl) rfl ?_)
         refine wg 1 rfl<|wo rfl bf<|wg 1 rfl<|wx rfl (eY (kO l).length (by omega)) fun|_,⟨hh,bs,rfl,uM,hb⟩=>⟨rfl,?_⟩
         refine hZ<|Wp.fR rfl (qK (n:=3)) (xK uE gm)<|wo rfl (HU (by omega))<|wo rfl (aB (by assumption) rfl)<|wg 1 rfl ?_
         (obtain⟨n,hn,pZ,jk⟩:=Bv uM bG;refine Wp.op rfl (aB pZ rfl) rfl ?_)
         refine wg 1 rfl<|wl rfl (l4 (c:=104) (n:=3) (by omega) (by omega)) rfl<|wo rfl (aB (nH (by omega)) rfl)<|wg 2 rfl<|wx rfl (AY h1 h3 ht hp (n:=n) (by omega)) fun|_,⟨es,bs,rfl,cz,fF,cx⟩=>⟨rfl,?_⟩
         exact My<|wt rfl ⟨.mk 6 [(97+to).toUInt8] (nm 104 hh) es [] [],bs,left,rfl,.send to hh n hl hn cz fF,by omega,by simp[St.sub,St.ns]⟩
        ·refine Wp.bh rfl ay (fun h=> ?_) (fun h=> ?_)
         ·refine wo rfl bf<|wg 1 rfl<|wx rfl (eY (dO ar).length (by omega)) fun|_,⟨to,bs,rfl,uE,hb⟩=>⟨rfl,?_⟩
          refine lG ?_
          (obtain⟨l,hl,jR,fq,dN,bG⟩:=BV uE cP;refine Wp.op rfl (aB jR rfl) rfl ?_)
          refine wg 1 rfl<|wo rfl bf<|wg 1 rfl<|wx rfl (eY (kO l).length (by omega)) fun|_,⟨hh,bs,rfl,uM,hb⟩=>⟨rfl,?_⟩
          refine hZ<|Wp.fR rfl (qK (n:=3)) (xK uE gm)<|wo rfl (HU (by omega))<|wo rfl (aB (by assumption) rfl)<|wg 1 rfl ?_
          (obtain⟨n,hn,pZ,jk⟩:=Bv uM bG;refine Wp.op rfl (aB pZ rfl) rfl ?_)
          refine wg 1 rfl<|wl rfl (l4 (c:=104) (n:=3) (by omega) (by omega)) rfl<|wo rfl (aB (nH (by omega)) rfl)<|wg 2 rfl<|wx rfl (AY h1 h3 ht hp (n:=n) (by omega)) fun|_,⟨es,bs,rfl,cz,fF,cx⟩=>⟨rfl,?_⟩
          exact My<|wt rfl ⟨.mk 6 [(97+to).toUInt8] (nm 104 hh) es [] [],bs,left,rfl,.send to hh n hl hn cz fF,by omega,by simp[St.sub,St.ns]⟩
         ·refine Wp.bh rfl ay (fun h=> ?_) (fun h=> ?_)
          ·(obtain⟨l,hl,jR,fq,dN,bG⟩:=BV jJ cP;refine Wp.op rfl (aB jR rfl) rfl ?_)
           refine wg 1 rfl<|wo rfl bf<|wg 1 rfl<|wx rfl (eY (kO l).length (by omega)) fun|_,⟨hh,bs,rfl,uM,hb⟩=>⟨rfl,?_⟩
           refine js<|wg 1 rfl<|wx rfl (eX h1 h3 ht hp 2 1 (by omega)) fun|_,⟨⟨o1,n1,i1,a1⟩,bs,rfl,bc,cN⟩=>⟨rfl,?_⟩
           refine Mz<|wo rfl (aB (by assumption) rfl)<|wg 1 rfl ?_
           (obtain⟨n,hn,pZ,jk⟩:=Bv uM bG;refine Wp.op rfl (aB pZ rfl) rfl ?_)
           refine wg 1 rfl<|wl rfl (l4 (c:=104) (n:=3) (by omega) (by omega)) rfl<|wo rfl (aB (nH (by omega)) rfl)<|wg 2 rfl<|wx rfl (AY h1 h3 ht hp (n:=n) (by omega)) fun|_,⟨es,bs,rfl,cz,fF,cx⟩=>⟨rfl,?_⟩
           dsimp only [dU,Ex.r,St.r,List.cons_append,List.nil_append];exact wg 1 rfl<|wo rfl (GK (Wz _) (by rw[wA,fF];show 1+n≤_;omega) (by rw[wA,fF];show(1+n)*56≤_;omega))<|wt rfl ⟨.mk 7 [] (nm 104 hh) (⟨o1,n1,i1,a1⟩::es) [] [],bs,left,rfl,.E7 hh n hl hn (fun e h=>by rcases xG.1 h with rfl|h;exact bc.mono (by omega);exact cz e h) (by rw[xi,fF]),by omega,by simp[St.sub,St.ns]⟩
          ·refine Wp.bh rfl ay (fun h=> ?_) (fun h=> ?_)
           ·refine wy rfl ak<|wg 1 rfl<|wx rfl (eY 2 (by omega)) fun|_,⟨k,bs,rfl,hk,hb⟩=>⟨rfl,?_⟩
            refine fZ<|Wp.bh rfl ay (fun h=> ?_) (fun h=> ?_)
            ·refine wg 1 rfl<|wx rfl (AY h1 h3 ht hp (n:=2) (by omega)) fun|_,⟨es,bs,rfl,cz,fF,cx⟩=>⟨rfl,?_⟩
             refine oX<|wo rfl oI<|wg 1 rfl<|wx rfl (ih (d+1) f (by omega) _ _ (by omega)) fun|_,⟨th,bs,left,rfl,lT,L7,L6⟩=>⟨rfl,?_⟩
             refine Fb ?_
             (obtain⟨a,b,rfl⟩:=LU fF;exact wt rfl ⟨.mk 8 [] [] [a,b] [] th,bs,left,rfl,.store (cz a (by simp)) (cz b (by simp)) lT,by omega,by show _+(0+St.ns th)≤_;omega⟩)
            ·refine wg 1 rfl<|wx rfl (mW (by omega) (by omega)) fun|_,⟨ki,bs,rfl,gz,hb⟩=>⟨rfl,?_⟩
             refine oX<|wg 1 rfl<|wx rfl (eX h1 h3 ht hp 3 0 (by omega)) fun|_,⟨⟨o1,n1,i1,a1⟩,bs,rfl,bc,cN⟩=>⟨rfl,?_⟩
             refine mM<|wo rfl oI<|wg 1 rfl<|wx rfl (ih (d+1) f (by omega) _ _ (by omega)) fun|_,⟨th,bs,left,rfl,lT,L7,L6⟩=>⟨rfl,?_⟩
             dsimp only [dU,Ex.r,St.r,List.cons_append,List.nil_append];exact wg 1 rfl<|wt rfl ⟨.mk 9 (nm 120 ki) [] [⟨o1,n1,i1,a1⟩] [] th,bs,left,rfl,.HC ki gz bc lT,by omega,by show _+(0+St.ns th)≤_;omega⟩
           ·refine Wp.bh rfl ay (fun h=> ?_) (fun h=> ?_)
            ·refine wg 1 rfl<|wx rfl (eY 3 (by omega)) fun|_,⟨k,bs,rfl,hk,hb⟩=>⟨rfl,?_⟩
             refine fZ<|Wp.bh rfl ay (fun h=> ?_) (fun h=> ?_)
             ·exact wt rfl ⟨.mk 10 [] [] [] [] [],bs,left,rfl,.stop,by omega,by simp[St.sub,St.ns]⟩
             ·refine wg 1 rfl<|wx rfl (mW (by omega) (by omega)) fun|_,⟨ki,bs,rfl,gz,hb⟩=>⟨rfl,?_⟩
              refine oX<|wg 1 rfl<|wx rfl (eX h1 h3 ht hp 3 0 (by omega)) fun|_,⟨⟨o1,n1,i1,a1⟩,bs,rfl,bc,cN⟩=>⟨rfl,?_⟩
              exact mM<|wg 1 rfl<|wt rfl ⟨.mk 1 (nm 120 ki) [] [⟨o1,n1,i1,a1⟩] [] [],bs,left,rfl,.nP ki gz bc,by omega,by simp[St.sub,St.ns]⟩
            ·refine wg 1 rfl<|wx rfl (mW (by omega) (by omega)) fun|_,⟨ki,bs,rfl,gz,hb⟩=>⟨rfl,?_⟩
             refine fZ<|wg 1 rfl<|wx rfl (eX h1 h3 ht hp 3 0 (by omega)) fun|_,⟨⟨o1,n1,i1,a1⟩,bs,rfl,bc,cN⟩=>⟨rfl,?_⟩
             exact n5<|wg 1 rfl<|wt rfl ⟨.mk 1 (nm 120 ki) [] [⟨o1,n1,i1,a1⟩] [] [],bs,left,rfl,.nP ki gz bc,by omega,by simp[St.sub,St.ns]⟩
theorem aS1(h1:1≤ints)(h3:ints≤3)(ht:tables≤1)(bE:flags≤2)(hp:params≤2)(jJ:own<(dO ar).length)(gm:(dO ar).length≤3)(cP:∀l∈ar,1≤l.length∧l.length≤3∧∀n∈l,n≤2):
 ∀(L:Nat),L≤12→∀(d f:Nat),d+f=3→∀(l:List St) (bs:List UInt8) (left:Nat),left≤L→left+St.ns l≤12→l9 ⟨⟨ints,tables,flags,params⟩,ar,own⟩ (f+1) l→Rn F X 6 1 (iD d:: .sl (St.rs l)::dU ints tables flags own ar params bs left) (fun o=>∃l' eQ qc,o= .sl (St.rs l')::dU ints tables flags own ar params eQ qc∧l9 ⟨⟨ints,tables,flags,params⟩,ar,own⟩ (f+1) l'∧eQ.length≤bs.length∧qc+St.ns l'≤left+St.ns l):=by
 intro L
 induction L with
 |zero=>
  intro hL d f hd l bs left hl hn hb;obtain rfl:left=0:=by omega
  refine wr rfl<|wo rfl bf<|Wp.bh rfl c7 (fun h=> ?_) (fun h=> ?_)
  ·exact wg 1 rfl<|wt rfl ⟨l,bs,0,rfl,hb,by omega,by omega⟩
  ·exact wt rfl ⟨l,bs,0,rfl,hb,by omega,by omega⟩
 |succ L ih=>
  intro hL d f hd l bs left hl hn hb;have ihb:∀(d f:Nat),d+f=3→∀(bs:List UInt8) (left:Nat),left≤L→Rn F X 6 0 [iD ints,iD tables,iD flags,iD own,.sl (dO ar),iD params,.sl (bX bs),iD left,iD d] (Rz ints tables flags own ar params bs left f):=by
   intro d f hd bs left hl;refine wr rfl<|Wp.jump rfl ?_;refine(ih (by omega) d f hd [] bs left hl (by show left+0≤12;omega) (fun s h=>by cases h)).mono ?_;rintro _ ⟨l',eQ,qc,rfl,q1,q2,q3⟩;exact⟨l',eQ,qc,rfl,q1,q2,q3⟩
  have aQ:=ot l;refine wr rfl<|wo rfl bf<|Wp.bh rfl c7 (fun h=> ?_) (fun h=> ?_)
  ·refine Wp.bh rfl c7 (fun h=> ?_) (fun h=> ?_)
   ·refine wg 1 rfl<|wx rfl (eY 14 (by omega)) fun|_,⟨k,bs,rfl,hk,hkb⟩=>⟨rfl,?_⟩
    refine lG<|Wp.bh rfl ay (fun h=> ?_) (fun h=> ?_)
    ·exact wt rfl ⟨l,bs,left,rfl,hb,by omega,by omega⟩
    ·refine wo rfl oW<|wg 1 rfl<|wx rfl (bc3 h1 h3 ht bE hp jJ gm cP ihb d f hd k _ _ hk (by omega)) fun|_,⟨⟨kk,n1,n2,es,th,el⟩,bs,DS,rfl,hs,hsb,hsn⟩=>⟨rfl,?_⟩
     dsimp only [dU,Ex.r,St.r,List.cons_append,List.nil_append];refine wg 2 rfl<|wo rfl (gO rfl rfl (by rw[JM];omega) (by rw[JM];omega))<|Wp.jump rfl (Rn.mono (ds:=iD d:: .sl (St.rs l++[St.r ⟨kk,n1,n2,es,th,el⟩])::dU ints tables flags own ar params bs DS) (by rw[VM];exact ih (by omega) d f hd _ bs DS (by omega) (by rw[Pc];omega) (fun s h=>by rcases xF.1 h with h|h;exact hb s h;rw[xy] at h;subst h;exact hs)) (by rintro _ ⟨l',eQ,qc,rfl,q1,q2,q3⟩;rw[Pc] at q3;exact⟨l',eQ,qc,rfl,q1,by omega,by omega⟩))
   ·exact wt rfl ⟨l,bs,left,rfl,hb,by omega,by omega⟩
  ·exact wt rfl ⟨l,bs,left,rfl,hb,by omega,by omega⟩
theorem bh3(h1:1≤ints)(h3:ints≤3)(ht:tables≤1)(bE:flags≤2)(hp:params≤2)(jJ:own<(dO ar).length)(gm:(dO ar).length≤3)(cP:∀l∈ar,1≤l.length∧l.length≤3∧∀n∈l,n≤2){bs:List UInt8}{left:Nat}(hl:left≤12):Rn F X 6 0 [iD ints,iD tables,iD flags,iD own,.sl (dO ar),iD params,.sl (bX bs),iD left,iD 0] (Rz ints tables flags own ar params bs left 3):=by
 refine wr rfl<|Wp.jump rfl ?_;refine(aS1 h1 h3 ht bE hp jJ gm cP 12 (by omega) 0 3 (by omega) [] bs left hl (by show left+0≤12;omega) (fun s h=>by cases h)).mono ?_;rintro _ ⟨l',eQ,qc,rfl,q1,q2,q3⟩;exact⟨l',eQ,qc,rfl,q1,q2,q3⟩
end
end Go.Proofs.YtaginlnifpbfgaaGreatDoor
namespace Go.Fl
open Go.Ex
structure Cd where
 params:UInt8
 bytes:List UInt8
structure Pt where
 ints:UInt8
 tables:UInt8
 hs:List Cd
 second:List Cd
def Cd.d(c:Cd):List D:=[bD c.params.toNat,.sl (bX c.bytes)]
def Pt.d(p:Pt):List D:=[bD p.ints.toNat,bD p.tables.toNat,.sl (p.hs.map Cd.d),.sl (p.second.map Cd.d)]
def bl(c k:Nat):List aH:=(List.range k).map (nm c)
structure sQ (ints tables flags own:Nat) (ar:List (List Nat)) (al:List Nat) (k:Nat) (h:Hn):Prop where
 name:h.name=nm 104 k
 mO:∃n,al[k]? =some n∧h.params=bl 112 n∧l9 ⟨⟨ints,tables,flags,n⟩,ar,own⟩ 4 h.body
 n:St.ns h.body≤12
end Go.Fl
namespace Go.Proofs.YtaginlnifpbfgaaGreatDoor
open Go.Ex Go.RowKit Go.Fl
section
variable{X:Nat→List D→Option (List D)}
theorem BU{α:Type}{f:α→List D}{l:List α}{i:Nat}(h:i<(l.map f).length):∃a,l[i]? =some a∧(l.map f)[i]? =some (f a):=by
 have hi:i<l.length:=by rw[←xm f];exact h
 exact⟨l[i],xc hi,by rw[xx,xc hi];rfl⟩
theorem y1(a b:Nat):Rn F X 8 0 [jD a,jD b] (·=[jD (min a b)]):=by
 refine wr rfl<|Wp.bh rfl ak (fun h=> ?_) (fun h=> ?_)
 ·exact wt rfl (by show[jD a]=_;rw[Nat.min_eq_left (by omega)])
 ·exact wt rfl (by show[jD b]=_;rw[Nat.min_eq_right (by omega)])
theorem OK(l:List Nat)(n:Nat):kO l++[[iD n]]=kO (l++[n]):=by simp[kO]
theorem Bd(l:List Nat):(kO l).length=l.length:=xm _
def ArQ(p:Pt)(o:List D):Prop:=∃l,o=[.sl (kO l)]∧l.length=min 3 (max 1 (max p.hs.length p.second.length))∧∀n∈l,n≤2
theorem aN3(p:Pt):∀(f i:Nat),i+f=3→∀(l:List Nat),l.length=min i (max 1 (max p.hs.length p.second.length))→(∀n∈l,n≤2)→Rn F X 9 1 (.sl (kO l)::iD i::[bD p.ints.toNat,bD p.tables.toNat,.sl (p.hs.map Cd.d),.sl (p.second.map Cd.d)]) (ArQ p):=by
 intro f
 induction f with
 |zero=>
  intro i hi l hl hn;obtain rfl:i=3:=by omega
  exact wr rfl<|wg 1 rfl<|wt rfl ⟨l,rfl,hl,hn⟩
 |succ f ih=>
  intro i hi l hl hn;obtain⟨pi,pt,hs,second⟩:=p;have hA:(hs.map Cd.d).length=hs.length:=xm _;have hB:(second.map Cd.d).length=second.length:=xm _;dsimp only at hl ih⊢;have ee:l.length=min i (max 1 (max hs.length second.length)):=hl;refine wr rfl<|wy rfl ak<|wo rfl bf<|Wp.bh rfl ak (fun h=> ?_) (fun h=> ?_)
  ·(obtain⟨a,ha,hd⟩:=BU (f:=Cd.d) (l:=hs) (i:=i) (by omega);refine Wp.op rfl (aB hd rfl) rfl ?_)
   refine wg 2 rfl<|n7<|wo rfl (kz (b:=3) .u8 (by omega))<|wo rfl oC<|wg 2 rfl<|wo rfl (gO rfl rfl (by rw[Bd];omega) (by rw[Bd];omega))<|nj<|wo rfl oA ?_
   (have:=ih (i+1) (by omega) (l++[a.params.toNat%3]) (by simp;omega) (fun n h=>by rcases xF.1 h with h|h;exact hn n h;rw[xy] at h;omega);rw[←OK] at this;exact Wp.jump rfl this)
  ·refine Wp.bh rfl ay (fun h=> ?_) (fun h=> ?_)
   ·refine wg 2 rfl<|wo rfl (gO rfl rfl (by rw[Bd];omega) (by rw[Bd];omega))<|wo rfl oA<|n7 ?_
    (have:=ih (i+1) (by omega) (l++[1]) (by simp;omega) (fun n h=>by rcases xF.1 h with h|h;exact hn n h;rw[xy] at h;omega);rw[←OK] at this;exact Wp.jump rfl this)
   ·refine wo rfl bf<|Wp.bh rfl ak (fun h=> ?_) (fun h=> ?_)
    ·(obtain⟨a,ha,hd⟩:=BU (f:=Cd.d) (l:=second) (i:=i) (by omega);refine Wp.op rfl (aB hd rfl) rfl ?_)
     refine wg 1 rfl<|n7<|wg 1 rfl<|wo rfl (kz (b:=3) .u8 (by omega))<|wo rfl oC<|wg 2 rfl<|nj<|wo rfl (gO rfl rfl (by rw[Bd];omega) (by rw[Bd];omega))<|wo rfl oA ?_
     (have:=ih (i+1) (by omega) (l++[a.params.toNat%3]) (by simp;omega) (fun n h=>by rcases xF.1 h with h|h;exact hn n h;rw[xy] at h;omega);rw[←OK] at this;exact Wp.jump rfl this)
    ·exact wo rfl oA<|Wp.jump rfl (ih (i+1) (by omega) l (by show l.length=min (i+1) (max 1 (max hs.length second.length));omega) hn)
theorem ba6(p:Pt):Rn F X 9 0 p.d (ArQ p):=by
 obtain⟨pi,pt,hs,second⟩:=p;refine wr rfl<|Wp.jump rfl ?_;exact aN3 ⟨pi,pt,hs,second⟩ 3 0 (by omega) [] (by simp) (fun n h=>by cases h)
theorem aJ7(l:List UInt8)(k:Nat):(bX l).take k=bX (l.take k):=by simp[bX,List.map_take]
variable{ints tables flags own:Nat}{ar:List (List Nat)}
def HsQ(ints tables flags own:Nat)(ar:List (List Nat))(al:List Nat)(m:Nat)(o:List D):Prop:=∃(hs:List Hn) (params:Nat) (bs:List UInt8) (left:Nat),o= .sl (hs.map Hn.r)::dU ints tables flags own ar params bs left∧hs.length=m∧∀k h,hs[k]? =some h→sQ ints tables flags own ar al k h
theorem bc2(c k:Nat):strs (bl c k)=kP c k:=by simp[strs,bl,kP]
theorem aF8(h1:1≤ints)(h3:ints≤3)(ht:tables≤1)(bE:flags≤2)(jJ:own<(dO ar).length)(gm:(dO ar).length≤3)(cP:∀l∈ar,1≤l.length∧l.length≤3∧∀n∈l,n≤2){al:List Nat}(bt:ar[own]? =some al)(cs:List Cd)(cw:cs.length≤al.length):
 ∀(f i:Nat),i+f=cs.length→∀(hs:List Hn) (params:Nat) (bs:List UInt8) (left:Nat),hs.length=i→(∀k h,hs[k]? =some h→sQ ints tables flags own ar al k h)→Rn F X 10 1 (.sl (hs.map Hn.r):: .sl (cs.map Cd.d)::jD (cs.map Cd.d).length::iD i::dU ints tables flags own ar params bs left) (HsQ ints tables flags own ar al cs.length):=by
 have hA:(cs.map Cd.d).length=cs.length:=xm _;have av4:al.length≤3:=by
  have:=xu bt;exact(cP al this).2.1
 intro f
 induction f with
 |zero=>
  intro i hi hs params bs left hl hk;exact wr rfl<|wn rfl ak<|wt rfl ⟨hs,params,bs,left,rfl,by omega,hk⟩
 |succ f ih=>
  intro i hi hs params bs left hl hk;obtain⟨l,qy,jR,fq,dN,bG⟩:=BV jJ cP;obtain rfl:l=al:=by rw[bt] at qy;cases qy;rfl
  have pa:(hs.map Hn.r).length=hs.length:=xm _;obtain⟨n,hn,pZ,jk⟩:=Bv (l:=l) (k:=i) (by rw[Bd];omega) bG;obtain⟨a,ha,hd⟩:=BU (f:=Cd.d) (l:=cs) (i:=i) (by omega);refine wr rfl<|wy rfl ak<|wo rfl (aB hd rfl)<|wg 1 rfl<|dJ<|wo rfl (aB jR rfl)<|wg 1 rfl<|wo rfl (aB pZ rfl)<|wg 1 rfl<|fZ<|wo rfl bf<|wl rfl (y1 _ 40) rfl<|wo rfl (m6 (by omega))<|wl rfl (l4 (c:=104) (n:=3) (by omega) (by omega)) rfl<|qp<|wo rfl (aB (nH (by omega)) rfl)<|wg 1 rfl<|wl rfl (l4 (c:=112) (n:=n) (by omega) (by omega)) rfl<|wg 1 rfl ?_;rw[aJ7];refine wx rfl (bh3 h1 h3 ht bE jk jJ gm cP (left:=12) (by omega)) fun|_,⟨l2,bs,left,rfl,cN,cx,lY⟩=>⟨rfl,?_⟩
  dsimp only [dU,Ex.r,St.r,List.cons_append,List.nil_append,df,de,iT,kr,kq];refine wg 2 rfl<|wo rfl oP<|wo rfl oA<|Wp.jump rfl ?_;have:=ih (i+1) (by omega) (hs++[⟨nm 104 i,bl 112 n,l2⟩]) n bs left (by simp;omega) (fun k h hh=>by
   rcases Nat.lt_or_ge k hs.length with bg|ek
   ·rw[xw bg] at hh;exact hk k h hh
   ·rw[xq ek] at hh;have h0:k - hs.length=0:=by
     rcases xI (k - hs.length) with h|h
     ·exact h
     ·rw[List.getElem?_eq_none (by simp;omega)] at hh;cases hh
    rw[h0] at hh;cases hh;obtain rfl:k=i:=by omega
    exact⟨rfl,⟨n,hn,rfl,cN⟩,by show St.ns l2≤12;omega⟩)
  have e:(hs++[(⟨nm 104 i,bl 112 n,l2⟩:Hn)]).map Hn.r=hs.map Hn.r++[[.str (nm 104 i),.sl (kP 112 n),.sl (St.rs l2)]]:=by
   rw[List.map_append];show _++[[_,D.sl (strs (bl 112 n)),_]]=_
   rw[bc2]
  rw[e] at this;exact this
theorem yQ(h1:1≤ints)(h3:ints≤3)(ht:tables≤1)(bE:flags≤2)(jJ:own<(dO ar).length)(gm:(dO ar).length≤3)(cP:∀l∈ar,1≤l.length∧l.length≤3∧∀n∈l,n≤2){al:List Nat}(bt:ar[own]? =some al){cs:List Cd}(cw:cs.length≤al.length){params left:Nat}{bs:List UInt8}:
 Rn F X 10 0 [iD ints,iD tables,iD flags,iD own,.sl (dO ar),iD params,.sl (bX bs),iD left,.sl (cs.map Cd.d)] (HsQ ints tables flags own ar al cs.length):=by
 refine wr rfl<|wo rfl bf<|Wp.jump rfl ?_;exact aF8 h1 h3 ht bE jJ gm cP bt cs cw cs.length 0 (by omega) [] params bs left rfl (fun k h hh=>by simp at hh)
end
end Go.Proofs.YtaginlnifpbfgaaGreatDoor
