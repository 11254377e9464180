/- What these functions answer. -/
import Derived.Test.YtnjdjocokegphaaGreatDoorT0
import Derived.Test.YtnjdjocokegphaaGreatDoorA0
set_option linter.unusedVariables false
set_option linter.unusedSimpArgs false
set_option maxHeartbeats 4000000
set_option maxRecDepth 100000
namespace Go.Proofs.YtnjdjocokegphaaGreatDoor
open Go.Ex Go.RowKit
abbrev dv4:Nat:=0
abbrev dr5:Nat:=1
abbrev dt0:Nat:=2
abbrev dr4:Nat:=3
abbrev du3:Nat:=4
abbrev dv3:Nat:=5
abbrev dv5:Nat:=6
abbrev dA8:Nat:=7
abbrev dA9:Nat:=8
abbrev dB0:Nat:=9
abbrev dq8:Nat:=10
abbrev dB1:Nat:=11
abbrev dC2:Nat:=12
abbrev dC3:Nat:=13
abbrev dA0:Nat:=14
abbrev du1:Nat:=15
abbrev dz4:Nat:=16
abbrev dv2:Nat:=17
abbrev dw6:Nat:=18
abbrev dq6:Nat:=19
abbrev dv1:Nat:=20
abbrev ds7:Nat:=21
abbrev dy4:Nat:=22
abbrev dw2:Nat:=23
abbrev dz2:Nat:=24
abbrev dx6:Nat:=25
abbrev dx5:Nat:=26
abbrev dr3:Nat:=27
abbrev dp9:Nat:=28
abbrev dp8:Nat:=29
abbrev du9:Nat:=30
abbrev du0:Nat:=31
abbrev du8:Nat:=32
abbrev dt9:Nat:=33
abbrev dp7:Nat:=34
abbrev dr2:Nat:=35
abbrev dx4:Nat:=36
abbrev dw3:Nat:=37
abbrev dv0:Nat:=38
abbrev dz1:Nat:=39
abbrev dy5:Nat:=40
abbrev dz5:Nat:=41
abbrev do1:Nat:=42
abbrev do5:Nat:=43
abbrev do0:Nat:=44
abbrev dn9:Nat:=45
abbrev dB7:Nat:=46
abbrev dx1:Nat:=47
abbrev dy3:Nat:=48
abbrev dw0:Nat:=49
abbrev dq3:Nat:=50
abbrev dp4:Nat:=51
abbrev dq4:Nat:=52
abbrev du7:Nat:=53
abbrev dr1:Nat:=54
abbrev dr0:Nat:=55
abbrev dr9:Nat:=56
abbrev do7:Nat:=57
abbrev dA5:Nat:=58
abbrev dq2:Nat:=59
abbrev du6:Nat:=60
abbrev dt7:Nat:=61
abbrev dt6:Nat:=62
abbrev dr8:Nat:=63
abbrev dt8:Nat:=64
abbrev ds3:Nat:=65
abbrev dx2:Nat:=66
abbrev dw1:Nat:=67
abbrev dq5:Nat:=68
abbrev dp6:Nat:=69
abbrev dC5:Nat:=70
abbrev dn8:Nat:=71
abbrev dt3:Nat:=72
abbrev dt4:Nat:=73
abbrev dr7:Nat:=74
abbrev dr6:Nat:=75
abbrev dp2:Nat:=76
abbrev dt5:Nat:=77
abbrev dt2:Nat:=78
abbrev dp3:Nat:=79
abbrev dB5:Nat:=80
abbrev du5:Nat:=81
abbrev dx9:Nat:=82
abbrev dA1:Nat:=83
abbrev dA2:Nat:=84
abbrev dp1:Nat:=85
abbrev dp0:Nat:=86
abbrev do4:Nat:=87
abbrev do3:Nat:=88
abbrev do2:Nat:=89
abbrev dw5:Nat:=90
abbrev dw4:Nat:=91
abbrev ds8:Nat:=92
abbrev dw7:Nat:=93
abbrev dy6:Nat:=94
abbrev dA7:Nat:=95
abbrev ds9:Nat:=96
abbrev dq7:Nat:=97
abbrev dx3:Nat:=98
abbrev dA6:Nat:=99
abbrev ds4:Nat:=100
abbrev ds5:Nat:=101
abbrev do8:Nat:=102
abbrev ds6:Nat:=103
abbrev dp5:Nat:=104
abbrev do9:Nat:=105
abbrev dz3:Nat:=106
abbrev dD0:Nat:=107
abbrev dC1:Nat:=108
abbrev dz9:Nat:=109
abbrev dz0:Nat:=110
abbrev dz7:Nat:=111
abbrev du2:Nat:=112
abbrev dz6:Nat:=113
abbrev dC4:Nat:=114
abbrev dz8:Nat:=115
abbrev dx7:Nat:=116
abbrev du4:Nat:=117
abbrev dC7:Nat:=118
abbrev dq9:Nat:=119
abbrev dw8:Nat:=120
abbrev dy0:Nat:=121
abbrev dB9:Nat:=122
abbrev dB8:Nat:=123
abbrev dy9:Nat:=124
abbrev dB4:Nat:=125
abbrev dx0:Nat:=126
abbrev dA4:Nat:=127
abbrev dA3:Nat:=128
abbrev do6:Nat:=129
abbrev dB6:Nat:=130
abbrev dy7:Nat:=131
abbrev dC6:Nat:=132
abbrev dy2:Nat:=133
abbrev dn7:Nat:=134
abbrev dw9:Nat:=135
abbrev dy1:Nat:=136
abbrev dv7:Nat:=137
abbrev dC8:Nat:=138
abbrev dC0:Nat:=139
abbrev dx8:Nat:=140
abbrev dt1:Nat:=141
abbrev dv6:Nat:=142
abbrev dB2:Nat:=143
abbrev dy8:Nat:=144
abbrev dq0:Nat:=145
abbrev dB3:Nat:=146
open Go.Ex Go.RowKit Go.Fl
variable{X:Nat→List D→Option (List D)}
theorem rD(l:List UInt8):(bO l).length=l.length:=xm _
theorem Pq{m:Mk}{n:Nat}(hn:1≤n):Rn F X 0 0 (m.d++[iD n]) (fun o=>∃k bs,o=iD k::Mk.d {m with bs:=bs}∧k<n∧bs.length≤m.bs.length):=by
 obtain⟨ints,tables,flags,own,ar,params,bs,left⟩:=m;refine Rn.of (fd:=Vf) (t:=aR5) rfl rfl rfl rfl (Wp.op rfl bl rfl ?_);cases bs with
 |nil=>exact Wp.dB rfl au rfl (wt rfl ⟨0,[],rfl,by omega,xk _⟩)
 |cons b bs=>
  refine Wp.cN rfl au (by show ¬(((bO (b::bs)).length:Nat):Int)=0;rw[rD,xi];omega)<|Wp.op rfl rfl rfl (Wp.op rfl rfl rfl (Wp.op rfl (Z9 (by have:=b.toNat_lt;omega)) rfl ?_));exact wo rfl (Jh (by simp[bO]) (fun r hr=>by obtain⟨x,_,rfl⟩:=xJ.1 hr;rfl))<|Wp.op rfl (j4 .i64 hn) rfl (wt rfl ⟨b.toNat%n,bs,rfl,Nat.mod_lt _ hn,by simp⟩)
def kn(c k:Nat):List (List D):=(List.range k).map fun j=>[.str (nm c j)]
theorem bj1(c k:Nat):kn c (k+1)=kn c k++[[.str (nm c k)]]:=by simp[kn,List.range_succ]
theorem x6(c k:Nat):(kn c k).length=k:=by simp[kn]
theorem mo{c k j:Nat}(h:j<k):(kn c k)[j]? =some [.str (nm c j)]:=by simp[kn,h]
theorem VT{c n:Nat}(hc:c<256)(hn:n≤9):∀(f k:Nat),k+f=n→Rn F X 7 1 [bD c,iD n,.sl (kn c k),iD k] (·=[.sl (kn c n)])
 |0,k,h=>by
  obtain rfl:k=n:=by omega
  exact Rn.of (fd:=Ir) (t:=TM) rfl rfl rfl rfl (Wp.cN rfl af (by omega) (wt rfl rfl))
 |f+1,k,h=>by
  refine Rn.of (fd:=Ir) (t:=TM) rfl rfl rfl rfl (Wp.dB rfl af (by omega) ?_);refine Wp.op rfl (gE (a:=48) (by omega)) rfl (Wp.op rfl (Fp (by omega)) rfl (Wp.op rfl (br4 hc (by omega)) rfl ?_));refine Wp.note (Wp.op rfl rfl rfl (Wp.op rfl (fZ rfl rfl (by rw[x6];omega) (by rw[x6];omega)) rfl (Wp.op rfl (gE (b:=1) (by omega)) rfl (Wp.jump rfl ?_))));have:=VT hc hn f (k+1) (by omega);rw[bj1] at this;exact this
theorem kR{c n:Nat}(hc:c<256)(hn:n≤9):Rn F X 7 0 [bD c,iD n] (·=[.sl (kn c n)]):=
 Rn.of (fd:=Ir) (t:=aR4) rfl rfl rfl rfl (Wp.jump rfl (VT hc hn n 0 (by omega)))
section
variable{X:Nat→List D→Option (List D)}{ints tables flags own params left:Nat}{ar:List (List Nat)}
abbrev dS(ints tables flags own:Nat)(ar:List (List Nat))(params:Nat)(bs:List UInt8)(left:Nat):List D:=[iD ints,iD tables,iD flags,iD own,.sl (dN ar),iD params,.sl (bO bs),iD left]
theorem fc{bs:List UInt8}(n:Nat)(hn:1≤n):Rn F X 0 0 [iD ints,iD tables,iD flags,iD own,.sl (dN ar),iD params,.sl (bO bs),iD left,iD n] (fun o=>∃k eT,o=iD k::dS ints tables flags own ar params eT left∧k<n∧eT.length≤bs.length):=
 Pq (m:=⟨ints,tables,flags,own,ar,params,bs,left⟩) hn
theorem lP{bs:List UInt8}(h1:1≤ints)(h3:ints≤3):Rn F X 1 0 (dS ints tables flags own ar params bs left) (fun o=>∃k eT,o= .str (nm 120 k)::dS ints tables flags own ar params eT left∧k<ints∧eT.length≤bs.length):=by
 refine wr rfl<|wl rfl (kR (c:=120) (n:=3) (by omega) (by omega)) rfl<|wg 1 rfl<|wx rfl (fc ints h1) ?_;rintro _ ⟨k,eT,rfl,hk,hb⟩;refine⟨rfl,Wp.op rfl (aA (mo (by omega)) rfl) rfl ?_⟩;exact wg 1 rfl<|wt rfl ⟨k,eT,rfl,hk,hb⟩
def dn4(ints tables flags own:Nat)(ar:List (List Nat))(params:Nat)(bs:List UInt8)(left f:Nat)(o:List D):Prop:=∃e eT,o=Ex.r e++dS ints tables flags own ar params eT left∧fh ⟨ints,tables,flags,params⟩ f e∧eT.length≤bs.length
theorem Su{k:Nat}(h:k<6):∃op,11≤op∧op≤15∧aN (.fR 1 0 1 false) [iD k,.int .i64 14,.int .i64 15,.int .i64 11,.int .i64 12,.int .i64 13,.int .i64 14]=some (iD op):=by
 have:k=0∨k=1∨k=2∨k=3∨k=4∨k=5:=by omega
 rcases this with rfl|rfl|rfl|rfl|rfl|rfl
 ·exact⟨14,by omega,by omega,rfl⟩
 ·exact⟨15,by omega,by omega,rfl⟩
 ·exact⟨11,by omega,by omega,rfl⟩
 ·exact⟨12,by omega,by omega,rfl⟩
 ·exact⟨13,by omega,by omega,rfl⟩
 ·exact⟨14,by omega,by omega,rfl⟩
theorem fb(h1:1≤ints)(h3:ints≤3)(ht:tables≤1)(hp:params≤2):∀(f d:Nat),d+f=3→∀{bs:List UInt8},Rn F X 2 0 [iD ints,iD tables,iD flags,iD own,.sl (dN ar),iD params,.sl (bO bs),iD left,iD d] (dn4 ints tables flags own ar params bs left f):=by
 intro f
 induction f with
 |zero=>
  intro d hd bs;obtain rfl:d=3:=by omega
  refine wr rfl<|wg 1 rfl<|wx rfl (fc 12 (by omega)) fun|_,⟨k,bs,rfl,hk,hb⟩=>⟨rfl,?_⟩
  refine DU<|Wp.aQ rfl af (fun h=> ?_) (fun h=> ?_)
  ·refine wg 1 rfl<|wx rfl (fc 9 (by omega)) fun|_,⟨k,bs,rfl,hk,hb⟩=>⟨rfl,?_⟩
   exact io<|wt rfl ⟨.mk 1 [] k [],bs,rfl,.num k (by omega),by omega⟩
  ·refine wg 1 rfl<|Wp.aQ rfl ch (fun h=> ?_) (fun h=> ?_)
   ·refine wg 1 rfl<|wx rfl (fc 9 (by omega)) fun|_,⟨k,bs,rfl,hk,hb⟩=>⟨rfl,?_⟩
    exact io<|wt rfl ⟨.mk 1 [] k [],bs,rfl,.num k (by omega),by omega⟩
   ·refine Wp.aQ rfl af (fun h=> ?_) (fun h=> ?_)
    ·refine wg 1 rfl<|wx rfl (lP (by omega) (by omega)) fun|_,⟨k,bs,rfl,hk,hb⟩=>⟨rfl,?_⟩
     exact io<|wt rfl ⟨.mk 5 (nm 120 k) 0 [],bs,rfl,.var k (by omega),by omega⟩
    ·refine Wp.aQ rfl au (fun h=> ?_) (fun h=> ?_)
     ·refine Wp.aQ rfl au (fun h=> ?_) (fun h=> ?_)
      ·refine wg 1 rfl<|wx rfl (lP (by omega) (by omega)) fun|_,⟨k,bs,rfl,hk,hb⟩=>⟨rfl,?_⟩
       exact io<|wt rfl ⟨.mk 5 (nm 120 k) 0 [],bs,rfl,.var k (by omega),by omega⟩
      ·refine wy rfl au<|wl rfl (kR (c:=112) (n:=2) (by omega) (by omega)) rfl<|wg 1 rfl<|wx rfl (fc params (by omega)) fun|_,⟨k,bs,rfl,hk,hb⟩=>⟨rfl,?_⟩
       exact mI<|wo rfl (aA (mo (by omega)) rfl)<|wg 1 rfl<|wt rfl ⟨.mk 5 (nm 112 k) 0 [],bs,rfl,.lH k (by omega),by omega⟩
     ·exact wn rfl au<|wy rfl au<|wt rfl ⟨.mk 4 [] 0 [],bs,rfl,.now,by omega⟩
 |succ f ih=>
  intro d hd bs;refine wr rfl<|wg 1 rfl<|wx rfl (fc 12 (by omega)) fun|_,⟨k,bs,rfl,hk,hb⟩=>⟨rfl,?_⟩
  refine DU<|Wp.aQ rfl af (fun h=> ?_) (fun h=> ?_)
  ·refine wg 1 rfl<|wx rfl (fc 9 (by omega)) fun|_,⟨k,bs,rfl,hk,hb⟩=>⟨rfl,?_⟩
   exact io<|wt rfl ⟨.mk 1 [] k [],bs,rfl,.num k (by omega),by omega⟩
  ·refine wn rfl ch<|Wp.aQ rfl af (fun h=> ?_) (fun h=> ?_)
   ·refine wg 1 rfl<|wx rfl (lP (by omega) (by omega)) fun|_,⟨k,bs,rfl,hk,hb⟩=>⟨rfl,?_⟩
    exact io<|wt rfl ⟨.mk 5 (nm 120 k) 0 [],bs,rfl,.var k (by omega),by omega⟩
   ·refine Wp.aQ rfl au (fun h=> ?_) (fun h=> ?_)
    ·refine Wp.aQ rfl au (fun h=> ?_) (fun h=> ?_)
     ·refine wg 1 rfl<|wx rfl (lP (by omega) (by omega)) fun|_,⟨k,bs,rfl,hk,hb⟩=>⟨rfl,?_⟩
      exact io<|wt rfl ⟨.mk 5 (nm 120 k) 0 [],bs,rfl,.var k (by omega),by omega⟩
     ·refine wy rfl au<|wl rfl (kR (c:=112) (n:=2) (by omega) (by omega)) rfl<|wg 1 rfl<|wx rfl (fc params (by omega)) fun|_,⟨k,bs,rfl,hk,hb⟩=>⟨rfl,?_⟩
      exact mI<|wo rfl (aA (mo (by omega)) rfl)<|wg 1 rfl<|wt rfl ⟨.mk 5 (nm 112 k) 0 [],bs,rfl,.lH k (by omega),by omega⟩
    ·refine wn rfl au<|Wp.aQ rfl au (fun h=> ?_) (fun h=> ?_)
     ·exact wt rfl ⟨.mk 4 [] 0 [],bs,rfl,.now,by omega⟩
     ·refine Wp.aQ rfl au (fun h=> ?_) (fun h=> ?_)
      ·refine Wp.aQ rfl ch (fun h=> ?_) (fun h=> ?_)
       ·refine wo rfl oI<|wg 1 rfl<|wx rfl (ih (d+1) (by omega)) fun|_,⟨⟨o1,n1,i1,a1⟩,bs,rfl,ba,cz⟩=>⟨rfl,?_⟩
        exact lF<|wg 1 rfl<|wt rfl ⟨.mk 6 (nm 116 0) 0 [⟨o1,n1,i1,a1⟩],bs,rfl,.get (by show 0<tables;omega) ba,by omega⟩
       ·refine wn rfl au<|wn rfl au<|wg 1 rfl<|wx rfl (fc 6 (by omega)) fun|_,⟨k,bs,rfl,hk,hb⟩=>⟨rfl,?_⟩
        refine io<|wy rfl po ?_
        (obtain⟨op,rj,gz,ho⟩:=Su hk;refine Wp.op rfl ho rfl ?_)
        refine wo rfl oI<|wg 1 rfl<|wx rfl (ih (d+1) (by omega)) fun|_,⟨⟨o1,n1,i1,a1⟩,bs,rfl,ba,cz⟩=>⟨rfl,?_⟩
        dsimp only [dS,Ex.r,St.r,List.cons_append,List.nil_append];refine wo rfl oI<|wg 1 rfl ?_
        (have _:=ba;refine wx rfl (ih (d+1) (by omega)) ?_;rintro _ ⟨⟨o2,n2,i2,a2⟩,bs,rfl,fT,cg⟩;refine⟨rfl,?_⟩)
        exact MS<|wg 1 rfl<|wt rfl ⟨.mk op [] 0 [⟨o1,n1,i1,a1⟩,⟨o2,n2,i2,a2⟩],bs,rfl,.bin op rj gz ba fT,by omega⟩
      ·refine Wp.aQ rfl au (fun h=> ?_) (fun h=> ?_)
       ·refine Wp.aQ rfl ch (fun h=> ?_) (fun h=> ?_)
        ·exact wt rfl ⟨.mk 8 (nm 116 0) 0 [],bs,rfl,.size (by show 0<tables;omega),by omega⟩
        ·refine wn rfl au<|wg 1 rfl<|wx rfl (fc 6 (by omega)) fun|_,⟨k,bs,rfl,hk,hb⟩=>⟨rfl,?_⟩
         refine io<|wy rfl po ?_
         (obtain⟨op,rj,gz,ho⟩:=Su hk;refine Wp.op rfl ho rfl ?_)
         refine wo rfl oI<|wg 1 rfl<|wx rfl (ih (d+1) (by omega)) fun|_,⟨⟨o1,n1,i1,a1⟩,bs,rfl,ba,cz⟩=>⟨rfl,?_⟩
         dsimp only [dS,Ex.r,St.r,List.cons_append,List.nil_append];refine wo rfl oI<|wg 1 rfl ?_
         (have _:=ba;refine wx rfl (ih (d+1) (by omega)) ?_;rintro _ ⟨⟨o2,n2,i2,a2⟩,bs,rfl,fT,cg⟩;refine⟨rfl,?_⟩)
         exact MS<|wg 1 rfl<|wt rfl ⟨.mk op [] 0 [⟨o1,n1,i1,a1⟩,⟨o2,n2,i2,a2⟩],bs,rfl,.bin op rj gz ba fT,by omega⟩
       ·refine Wp.aQ rfl au (fun h=> ?_) (fun h=> ?_)
        ·refine wo rfl oI<|wg 1 rfl<|wx rfl (ih (d+1) (by omega)) fun|_,⟨⟨o1,n1,i1,a1⟩,bs,rfl,ba,cz⟩=>⟨rfl,?_⟩
         exact lF<|wg 1 rfl<|wt rfl ⟨.mk 9 [] 0 [⟨o1,n1,i1,a1⟩],bs,rfl,.neg ba,by omega⟩
        ·refine wg 1 rfl<|wx rfl (fc 6 (by omega)) fun|_,⟨k,bs,rfl,hk,hb⟩=>⟨rfl,?_⟩
         refine io<|wy rfl po ?_
         (obtain⟨op,rj,gz,ho⟩:=Su hk;refine Wp.op rfl ho rfl ?_)
         refine wo rfl oI<|wg 1 rfl<|wx rfl (ih (d+1) (by omega)) fun|_,⟨⟨o1,n1,i1,a1⟩,bs,rfl,ba,cz⟩=>⟨rfl,?_⟩
         dsimp only [dS,Ex.r,St.r,List.cons_append,List.nil_append];refine wo rfl oI<|wg 1 rfl ?_
         (have _:=ba;refine wx rfl (ih (d+1) (by omega)) ?_;rintro _ ⟨⟨o2,n2,i2,a2⟩,bs,rfl,fT,cg⟩;refine⟨rfl,?_⟩)
         exact MS<|wg 1 rfl<|wt rfl ⟨.mk op [] 0 [⟨o1,n1,i1,a1⟩,⟨o2,n2,i2,a2⟩],bs,rfl,.bin op rj gz ba fT,by omega⟩
end
section
variable{X:Nat→List D→Option (List D)}{ints tables flags own params left:Nat}{ar:List (List Nat)}
theorem uY:∀(l:List Fl.Ex),(Ex.rs l).length=l.length
 |[]=>rfl
 |e::l=>by show(Ex.rs l).length+1=_;rw[uY l];rfl
theorem Xw:∀(l:List Fl.Ex) (e:Fl.Ex),Ex.rs l++[Ex.r e]=Ex.rs (l++[e])
 |[],e=>rfl
 |a::l,e=>by show Ex.r a::(Ex.rs l++[Ex.r e])=_;rw[Xw l e];rfl
def ao9(ints tables flags own:Nat)(ar:List (List Nat))(params:Nat)(bs:List UInt8)(left n:Nat)(o:List D):Prop:=∃es eT,o= .sl (Ex.rs es)::dS ints tables flags own ar params eT left∧(∀e∈es,fh ⟨ints,tables,flags,params⟩ 3 e)∧es.length=n∧eT.length≤bs.length
theorem aT7(h1:1≤ints)(h3:ints≤3)(ht:tables≤1)(hp:params≤2){n:Nat}(hn:n≤9):∀(f:Nat) (es:List Fl.Ex) (bs:List UInt8),es.length+f=n→(∀e∈es,fh ⟨ints,tables,flags,params⟩ 3 e)→Rn F X 3 1 (iD n:: .sl (Ex.rs es)::iD es.length::dS ints tables flags own ar params bs left) (ao9 ints tables flags own ar params bs left n):=by
 intro f
 induction f with
 |zero=>
  intro es bs hf he;exact wr rfl<|wn rfl af<|wt rfl ⟨es,bs,rfl,he,by omega,by omega⟩
 |succ f ih=>
  intro es bs hf he;refine wr rfl<|wy rfl af<|wg 1 rfl<|wx rfl (fb h1 h3 ht hp 2 1 (by omega)) fun|_,⟨⟨o1,n1,i1,a1⟩,bs,rfl,ba,cz⟩=>⟨rfl,?_⟩
  refine om<|wg 2 rfl<|wo rfl (fZ rfl rfl (by rw[uY];omega) (by rw[uY];omega))<|wo rfl oI<|Wp.jump rfl ?_;have:=ih (es++[⟨o1,n1,i1,a1⟩]) bs (by simp;omega) (fun e h=>by
   rcases xF.1 h with h|h
   ·exact he e h
   ·rw[xy] at h;subst h;exact ba.mono (by omega))
  rw[←Xw,xa] at this;exact this.mono fun o ⟨aD,eT,h1,h2,h3,h4⟩=>⟨aD,eT,h1,h2,h3,by omega⟩
theorem zC(h1:1≤ints)(h3:ints≤3)(ht:tables≤1)(hp:params≤2){n:Nat}(hn:n≤9){bs:List UInt8}:Rn F X 3 0 [iD ints,iD tables,iD flags,iD own,.sl (dN ar),iD params,.sl (bO bs),iD left,iD n] (ao9 ints tables flags own ar params bs left n):=by
 refine wr rfl<|Wp.jump rfl ?_;exact aT7 h1 h3 ht hp hn n [] bs (by simp) (by simp)
def dn3(ints tables flags own:Nat)(ar:List (List Nat))(params:Nat)(bs:List UInt8)(left f:Nat)(o:List D):Prop:=∃e eT,o=Ex.r e++dS ints tables flags own ar params eT left∧j8 ⟨ints,tables,flags,params⟩ f e∧eT.length≤bs.length
theorem ER(h1:1≤ints)(h3:ints≤3)(ht:tables≤1)(bx:flags≤2)(hp:params≤2):∀(f d:Nat),d+f=2→∀{bs:List UInt8},Rn F X 4 0 [iD ints,iD tables,iD flags,iD own,.sl (dN ar),iD params,.sl (bO bs),iD left,iD d] (dn3 ints tables flags own ar params bs left (f+3)):=by
 intro f
 induction f with
 |zero=>
  intro d hd bs;obtain rfl:d=2:=by omega
  refine wr rfl<|wg 1 rfl<|wx rfl (fc 10 (by omega)) fun|_,⟨k,bs,rfl,hk,hb⟩=>⟨rfl,?_⟩
  refine DU<|Wp.aQ rfl au (fun h=> ?_) (fun h=> ?_)
  ·refine wg 1 rfl<|wx rfl (fc 2 (by omega)) fun|_,⟨k,bs,rfl,hk,hb⟩=>⟨rfl,?_⟩
   exact io<|wo rfl oI<|wt rfl ⟨.mk (2+k) [] 0 [],bs,rfl,.lit _ (by omega) (by omega),by omega⟩
  ·refine Wp.aQ rfl au (fun h=> ?_) (fun h=> ?_)
   ·exact wt rfl ⟨.mk 5 (nm 98 0) 0 [],bs,rfl,.b0,by omega⟩
   ·refine wg 1 rfl<|Wp.aQ rfl ch (fun h=> ?_) (fun h=> ?_)
    ·exact wt rfl ⟨.mk 5 (nm 98 0) 0 [],bs,rfl,.b0,by omega⟩
    ·refine Wp.aQ rfl au (fun h=> ?_) (fun h=> ?_)
     ·refine Wp.aQ rfl ch (fun h=> ?_) (fun h=> ?_)
      ·refine wl rfl (kR (c:=102) (n:=2) (by omega) (by omega)) rfl<|wg 1 rfl<|wx rfl (fc flags (by omega)) fun|_,⟨k,bs,rfl,hk,hb⟩=>⟨rfl,?_⟩
       exact mI<|wo rfl (aA (mo (by omega)) rfl)<|wg 1 rfl<|wt rfl ⟨.mk 5 (nm 102 k) 0 [],bs,rfl,.flag k (by omega),by omega⟩
      ·refine wn rfl au<|wn rfl au<|wn rfl au<|wn rfl au<|wg 1 rfl<|wx rfl (fc 6 (by omega)) fun|_,⟨k,bs,rfl,hk,hb⟩=>⟨rfl,?_⟩
       refine io<|wo rfl oI<|wg 1 rfl<|wx rfl (fb h1 h3 ht hp 2 1 (by omega)) fun|_,⟨⟨o1,n1,i1,a1⟩,bs,rfl,ba,cz⟩=>⟨rfl,?_⟩
       refine lE<|wg 1 rfl ?_
       (have _:=ba;refine wx rfl (fb h1 h3 ht hp 2 1 (by omega)) ?_;rintro _ ⟨⟨o2,n2,i2,a2⟩,bs,rfl,fT,cg⟩;refine⟨rfl,?_⟩)
       exact sC<|wg 1 rfl<|wt rfl ⟨.mk (16+k) [] 0 [⟨o1,n1,i1,a1⟩,⟨o2,n2,i2,a2⟩],bs,rfl,.cmp _ (by omega) (by omega) ba fT,by omega⟩
     ·refine Wp.aQ rfl au (fun h=> ?_) (fun h=> ?_)
      ·refine Wp.aQ rfl ch (fun h=> ?_) (fun h=> ?_)
       ·refine wg 1 rfl<|wx rfl (fb h1 h3 ht hp 2 1 (by omega)) fun|_,⟨⟨o1,n1,i1,a1⟩,bs,rfl,ba,cz⟩=>⟨rfl,?_⟩
        exact ol<|wg 1 rfl<|wt rfl ⟨.mk 7 (nm 116 0) 0 [⟨o1,n1,i1,a1⟩],bs,rfl,.has (by show 0<tables;omega) ba,by omega⟩
       ·refine wn rfl au<|wn rfl au<|wn rfl au<|wg 1 rfl<|wx rfl (fc 6 (by omega)) fun|_,⟨k,bs,rfl,hk,hb⟩=>⟨rfl,?_⟩
        refine io<|wo rfl oI<|wg 1 rfl<|wx rfl (fb h1 h3 ht hp 2 1 (by omega)) fun|_,⟨⟨o1,n1,i1,a1⟩,bs,rfl,ba,cz⟩=>⟨rfl,?_⟩
        refine lE<|wg 1 rfl ?_
        (have _:=ba;refine wx rfl (fb h1 h3 ht hp 2 1 (by omega)) ?_;rintro _ ⟨⟨o2,n2,i2,a2⟩,bs,rfl,fT,cg⟩;refine⟨rfl,?_⟩)
        exact sC<|wg 1 rfl<|wt rfl ⟨.mk (16+k) [] 0 [⟨o1,n1,i1,a1⟩,⟨o2,n2,i2,a2⟩],bs,rfl,.cmp _ (by omega) (by omega) ba fT,by omega⟩
      ·refine wn rfl au<|wn rfl au<|wn rfl au<|wg 1 rfl<|wx rfl (fc 6 (by omega)) fun|_,⟨k,bs,rfl,hk,hb⟩=>⟨rfl,?_⟩
       refine io<|wo rfl oI<|wg 1 rfl<|wx rfl (fb h1 h3 ht hp 2 1 (by omega)) fun|_,⟨⟨o1,n1,i1,a1⟩,bs,rfl,ba,cz⟩=>⟨rfl,?_⟩
       refine lE<|wg 1 rfl ?_
       (have _:=ba;refine wx rfl (fb h1 h3 ht hp 2 1 (by omega)) ?_;rintro _ ⟨⟨o2,n2,i2,a2⟩,bs,rfl,fT,cg⟩;refine⟨rfl,?_⟩)
       exact sC<|wg 1 rfl<|wt rfl ⟨.mk (16+k) [] 0 [⟨o1,n1,i1,a1⟩,⟨o2,n2,i2,a2⟩],bs,rfl,.cmp _ (by omega) (by omega) ba fT,by omega⟩
 |succ f ih=>
  intro d hd bs;refine wr rfl<|wg 1 rfl<|wx rfl (fc 10 (by omega)) fun|_,⟨k,bs,rfl,hk,hb⟩=>⟨rfl,?_⟩
  refine DU<|Wp.aQ rfl au (fun h=> ?_) (fun h=> ?_)
  ·refine wg 1 rfl<|wx rfl (fc 2 (by omega)) fun|_,⟨k,bs,rfl,hk,hb⟩=>⟨rfl,?_⟩
   exact io<|wo rfl oI<|wt rfl ⟨.mk (2+k) [] 0 [],bs,rfl,.lit _ (by omega) (by omega),by omega⟩
  ·refine Wp.aQ rfl au (fun h=> ?_) (fun h=> ?_)
   ·exact wt rfl ⟨.mk 5 (nm 98 0) 0 [],bs,rfl,.b0,by omega⟩
   ·refine wn rfl ch<|Wp.aQ rfl au (fun h=> ?_) (fun h=> ?_)
    ·refine Wp.aQ rfl ch (fun h=> ?_) (fun h=> ?_)
     ·refine wl rfl (kR (c:=102) (n:=2) (by omega) (by omega)) rfl<|wg 1 rfl<|wx rfl (fc flags (by omega)) fun|_,⟨k,bs,rfl,hk,hb⟩=>⟨rfl,?_⟩
      exact mI<|wo rfl (aA (mo (by omega)) rfl)<|wg 1 rfl<|wt rfl ⟨.mk 5 (nm 102 k) 0 [],bs,rfl,.flag k (by omega),by omega⟩
     ·refine wn rfl au<|wn rfl au<|wn rfl au<|wn rfl au<|wg 1 rfl<|wx rfl (fc 6 (by omega)) fun|_,⟨k,bs,rfl,hk,hb⟩=>⟨rfl,?_⟩
      refine io<|wo rfl oI<|wg 1 rfl<|wx rfl (fb h1 h3 ht hp 2 1 (by omega)) fun|_,⟨⟨o1,n1,i1,a1⟩,bs,rfl,ba,cz⟩=>⟨rfl,?_⟩
      refine lE<|wg 1 rfl ?_
      (have _:=ba;refine wx rfl (fb h1 h3 ht hp 2 1 (by omega)) ?_;rintro _ ⟨⟨o2,n2,i2,a2⟩,bs,rfl,fT,cg⟩;refine⟨rfl,?_⟩)
      exact sC<|wg 1 rfl<|wt rfl ⟨.mk (16+k) [] 0 [⟨o1,n1,i1,a1⟩,⟨o2,n2,i2,a2⟩],bs,rfl,.cmp _ (by omega) (by omega) (ba.mono (by omega)) (fT.mono (by omega)),by omega⟩
    ·refine Wp.aQ rfl au (fun h=> ?_) (fun h=> ?_)
     ·refine Wp.aQ rfl ch (fun h=> ?_) (fun h=> ?_)
      ·refine wg 1 rfl<|wx rfl (fb h1 h3 ht hp 2 1 (by omega)) fun|_,⟨⟨o1,n1,i1,a1⟩,bs,rfl,ba,cz⟩=>⟨rfl,?_⟩
       exact ol<|wg 1 rfl<|wt rfl ⟨.mk 7 (nm 116 0) 0 [⟨o1,n1,i1,a1⟩],bs,rfl,.has (by show 0<tables;omega) (ba.mono (by omega)),by omega⟩
      ·refine wn rfl au<|wn rfl au<|wn rfl au<|wg 1 rfl<|wx rfl (fc 6 (by omega)) fun|_,⟨k,bs,rfl,hk,hb⟩=>⟨rfl,?_⟩
       refine io<|wo rfl oI<|wg 1 rfl<|wx rfl (fb h1 h3 ht hp 2 1 (by omega)) fun|_,⟨⟨o1,n1,i1,a1⟩,bs,rfl,ba,cz⟩=>⟨rfl,?_⟩
       refine lE<|wg 1 rfl ?_
       (have _:=ba;refine wx rfl (fb h1 h3 ht hp 2 1 (by omega)) ?_;rintro _ ⟨⟨o2,n2,i2,a2⟩,bs,rfl,fT,cg⟩;refine⟨rfl,?_⟩)
       exact sC<|wg 1 rfl<|wt rfl ⟨.mk (16+k) [] 0 [⟨o1,n1,i1,a1⟩,⟨o2,n2,i2,a2⟩],bs,rfl,.cmp _ (by omega) (by omega) (ba.mono (by omega)) (fT.mono (by omega)),by omega⟩
     ·refine Wp.aQ rfl au (fun h=> ?_) (fun h=> ?_)
      ·refine wo rfl oI<|wg 1 rfl<|wx rfl (ih (d+1) (by omega)) fun|_,⟨⟨o1,n1,i1,a1⟩,bs,rfl,ba,cz⟩=>⟨rfl,?_⟩
       exact lF<|wg 1 rfl<|wt rfl ⟨.mk 10 [] 0 [⟨o1,n1,i1,a1⟩],bs,rfl,.not ba,by omega⟩
      ·refine Wp.aQ rfl au (fun h=> ?_) (fun h=> ?_)
       ·refine wo rfl oI<|wg 1 rfl<|wx rfl (ih (d+1) (by omega)) fun|_,⟨⟨o1,n1,i1,a1⟩,bs,rfl,ba,cz⟩=>⟨rfl,?_⟩
        refine lF<|wo rfl oI<|wo rfl oI<|wg 1 rfl ?_
        (have _:=ba;refine wx rfl (ih (d+1) (by omega)) ?_;rintro _ ⟨⟨o2,n2,i2,a2⟩,bs,rfl,fT,cg⟩;refine⟨rfl,?_⟩)
        dsimp only [dS,Ex.r,St.r,List.cons_append,List.nil_append];exact wg 1 rfl<|wt rfl ⟨.mk (16+k) [] 0 [⟨o1,n1,i1,a1⟩,⟨o2,n2,i2,a2⟩],bs,rfl,.It _ (by omega) (by omega) ba fT,by omega⟩
       ·refine Wp.aQ rfl au (fun h=> ?_) (fun h=> ?_)
        ·refine wo rfl oI<|wg 1 rfl<|wx rfl (ih (d+1) (by omega)) fun|_,⟨⟨o1,n1,i1,a1⟩,bs,rfl,ba,cz⟩=>⟨rfl,?_⟩
         refine lF<|wo rfl oI<|wo rfl oI<|wg 1 rfl ?_
         (have _:=ba;refine wx rfl (ih (d+1) (by omega)) ?_;rintro _ ⟨⟨o2,n2,i2,a2⟩,bs,rfl,fT,cg⟩;refine⟨rfl,?_⟩)
         dsimp only [dS,Ex.r,St.r,List.cons_append,List.nil_append];exact wg 1 rfl<|wt rfl ⟨.mk (16+k) [] 0 [⟨o1,n1,i1,a1⟩,⟨o2,n2,i2,a2⟩],bs,rfl,.It _ (by omega) (by omega) ba fT,by omega⟩
        ·refine wg 1 rfl<|wx rfl (fc 6 (by omega)) fun|_,⟨k,bs,rfl,hk,hb⟩=>⟨rfl,?_⟩
         refine io<|wo rfl oI<|wg 1 rfl<|wx rfl (fb h1 h3 ht hp 2 1 (by omega)) fun|_,⟨⟨o1,n1,i1,a1⟩,bs,rfl,ba,cz⟩=>⟨rfl,?_⟩
         refine lE<|wg 1 rfl ?_
         (have _:=ba;refine wx rfl (fb h1 h3 ht hp 2 1 (by omega)) ?_;rintro _ ⟨⟨o2,n2,i2,a2⟩,bs,rfl,fT,cg⟩;refine⟨rfl,?_⟩)
         exact sC<|wg 1 rfl<|wt rfl ⟨.mk (16+k) [] 0 [⟨o1,n1,i1,a1⟩,⟨o2,n2,i2,a2⟩],bs,rfl,.cmp _ (by omega) (by omega) (ba.mono (by omega)) (fT.mono (by omega)),by omega⟩
end
end Go.Proofs.YtnjdjocokegphaaGreatDoor
namespace Go.Fl
mutual
def St.n:St→Nat| .mk _ _ _ _ th el=>1+St.ns th+St.ns el
def St.ns:List St→Nat|[]=>0|s::l=>St.n s+St.ns l
end
def St.sub:St→Nat| .mk _ _ _ _ th el=>St.ns th+St.ns el
end Go.Fl
namespace Go.Proofs.YtnjdjocokegphaaGreatDoor
open Go.Ex Go.RowKit Go.Fl
section
variable{X:Nat→List D→Option (List D)}{ints tables flags own params:Nat}{ar:List (List Nat)}
theorem I':∀(l:List St),(St.rs l).length=l.length
 |[]=>rfl
 |e::l=>by show(St.rs l).length+1=_;rw[I' l];rfl
theorem WL:∀(l:List St) (e:St),St.rs l++[St.r e]=St.rs (l++[e])
 |[],e=>rfl
 |a::l,e=>by show St.r a::(St.rs l++[St.r e])=_;rw[WL l e];rfl
theorem Po:∀(l:List St) (e:St),St.ns (l++[e])=St.ns l+(1+St.sub e)
 |[],.mk .. =>by simp[St.ns,St.n,St.sub];omega
 |a::l,e=>by simp[St.ns,Po l e];omega
theorem mW:∀(l:List St),l.length≤St.ns l
 |[]=>xk _
 | .mk .. ::l=>by have:=mW l;simp[St.ns,St.n];omega
theorem Xx(l:List Fl.Ex):∀row∈Ex.rs l,row.length=4∧row.all D.cell=true:=by
 induction l with
 |nil=>intro row h;cases h
 |cons e l ih=>
  obtain⟨op,nm,n,a⟩:=e;intro row h;rcases xG.1 h with rfl|h
  ·exact⟨rfl,rfl⟩
  ·exact ih row h
def kj(l:List Nat):List (List D):=l.map fun n=>[iD n]
theorem zP(ar:List (List Nat)):(dN ar).length=ar.length:=xm _
theorem AF{k:Nat}(h:k<(dN ar).length)(cA:∀l∈ar,1≤l.length∧l.length≤3∧∀n∈l,n≤2):∃l,ar[k]? =some l∧(dN ar)[k]? =some [.sl (kj l)]∧1≤(kj l).length∧(kj l).length≤3∧∀n∈l,n≤2:=by
 have hk:k<ar.length:=by rw[←zP];exact h
 have he:ar[k]? =some ar[k]:=xc hk;refine⟨ar[k],he,?_,?_⟩
 ·show(ar.map _)[k]? =_;rw[xx,he];rfl
 ·have:=cA ar[k] (List.getElem_mem hk);rw[show(kj ar[k]).length=ar[k].length from xm _];exact this
theorem z8{l:List Nat}{k:Nat}(h:k<(kj l).length)(hl:∀n∈l,n≤2):∃n,l[k]? =some n∧(kj l)[k]? =some [iD n]∧n≤2:=by
 have hk:k<l.length:=by rw[←show(kj l).length=l.length from xm _];exact h
 have he:l[k]? =some l[k]:=xc hk;refine⟨l[k],he,?_,hl _ (List.getElem_mem hk)⟩;show(l.map _)[k]? =_;rw[xx,he];rfl
theorem Me{α:Type}:∀{l:List α},l.length=2→∃a b,l=[a,b]
 |[a,b],_=>⟨a,b,rfl⟩
theorem He{k:Nat}(h:k<3):aN (.fR 1 0 1 false) [iD k,.str [97],.str [98],.str [99]]=some (.str [(97+k).toUInt8]):=by
 have:k=0∨k=1∨k=2:=by omega
 rcases this with rfl|rfl|rfl<;>rfl
def cP7(ints tables flags own:Nat)(ar:List (List Nat))(params:Nat)(bs:List UInt8)(left f:Nat)(o:List D):Prop:=∃s eT oN,o=St.r s++dS ints tables flags own ar params eT oN∧lD ⟨⟨ints,tables,flags,params⟩,ar,own⟩ (kY ⟨⟨ints,tables,flags,params⟩,ar,own⟩ f) s∧eT.length≤bs.length∧oN+St.sub s≤left
def R7(ints tables flags own:Nat)(ar:List (List Nat))(params:Nat)(bs:List UInt8)(left f:Nat)(o:List D):Prop:=∃l eT oN,o= .sl (St.rs l)::dS ints tables flags own ar params eT oN∧kY ⟨⟨ints,tables,flags,params⟩,ar,own⟩ (f+1) l∧eT.length≤bs.length∧oN+St.ns l≤left
theorem bp6(h1:1≤ints)(h3:ints≤3)(ht:tables≤1)(bx:flags≤2)(hp:params≤2)(kD:own<(dN ar).length)(gg:(dN ar).length≤3)(cA:∀l∈ar,1≤l.length∧l.length≤3∧∀n∈l,n≤2){L:Nat}
 (ih:∀(d f:Nat),d+f=3→∀(bs:List UInt8) (left:Nat),left≤L→Rn F X 6 0 [iD ints,iD tables,iD flags,iD own,.sl (dN ar),iD params,.sl (bO bs),iD left,iD d] (R7 ints tables flags own ar params bs left f)):
 ∀(d f:Nat),d+f=3→∀(kk:Nat) (bs:List UInt8) (left:Nat),kk<14→left≤L→Rn F X 5 0 [iD ints,iD tables,iD flags,iD own,.sl (dN ar),iD params,.sl (bO bs),iD left,iD kk,iD d] (cP7 ints tables flags own ar params bs left f):=by
 intro d f hd kk bs left iL dD8;cases f with
 |zero=>
  refine wr rfl<|Wp.aQ rfl au (fun h=> ?_) (fun h=> ?_)
  ·refine wg 1 rfl<|wx rfl (ER h1 h3 ht bx hp 2 0 (by omega)) fun|_,⟨⟨o1,n1,i1,a1⟩,bs,rfl,ba,cz⟩=>⟨rfl,?_⟩
   exact hO<|wg 1 rfl<|wt rfl ⟨.mk 1 (nm 98 0) [] [⟨o1,n1,i1,a1⟩] [] [],bs,left,rfl,.Dg ba,by omega,by simp[St.sub,St.ns]⟩
  ·refine Wp.aQ rfl au (fun h=> ?_) (fun h=> ?_)
   ·refine Wp.aQ rfl ch (fun h=> ?_) (fun h=> ?_)
    ·refine wg 1 rfl<|wx rfl (fb h1 h3 ht hp 3 0 (by omega)) fun|_,⟨⟨o1,n1,i1,a1⟩,bs,rfl,ba,cz⟩=>⟨rfl,?_⟩
     refine hO<|wg 1 rfl ?_
     (have _:=ba;refine wx rfl (fb h1 h3 ht hp 3 0 (by omega)) ?_;rintro _ ⟨⟨o2,n2,i2,a2⟩,bs,rfl,fT,cg⟩;refine⟨rfl,?_⟩)
     exact MU<|wg 1 rfl<|wt rfl ⟨.mk 2 (nm 116 0) [] [⟨o1,n1,i1,a1⟩,⟨o2,n2,i2,a2⟩] [] [],bs,left,rfl,.put (by show 0<tables;omega) ba fT,by omega,by simp[St.sub,St.ns]⟩
    ·refine wn rfl au<|wn rfl au<|wn rfl au<|wn rfl au<|wn rfl au<|wn rfl au<|wn rfl au<|wn rfl au<|wn rfl au<|wg 1 rfl<|wx rfl (lP (by omega) (by omega)) fun|_,⟨ki,bs,rfl,gj,hb⟩=>⟨rfl,?_⟩
     refine fJ<|wg 1 rfl<|wx rfl (fb h1 h3 ht hp 3 0 (by omega)) fun|_,⟨⟨o1,n1,i1,a1⟩,bs,rfl,ba,cz⟩=>⟨rfl,?_⟩
     exact lF<|wg 1 rfl<|wt rfl ⟨.mk 1 (nm 120 ki) [] [⟨o1,n1,i1,a1⟩] [] [],bs,left,rfl,.my ki gj ba,by omega,by simp[St.sub,St.ns]⟩
   ·refine Wp.aQ rfl au (fun h=> ?_) (fun h=> ?_)
    ·refine Wp.aQ rfl ch (fun h=> ?_) (fun h=> ?_)
     ·refine wg 1 rfl<|wx rfl (fb h1 h3 ht hp 3 0 (by omega)) fun|_,⟨⟨o1,n1,i1,a1⟩,bs,rfl,ba,cz⟩=>⟨rfl,?_⟩
      exact hO<|wg 1 rfl<|wt rfl ⟨.mk 3 (nm 116 0) [] [⟨o1,n1,i1,a1⟩] [] [],bs,left,rfl,.del (by show 0<tables;omega) ba,by omega,by simp[St.sub,St.ns]⟩
     ·refine wn rfl au<|wn rfl au<|wn rfl au<|wn rfl au<|wn rfl au<|wn rfl au<|wn rfl au<|wn rfl au<|wg 1 rfl<|wx rfl (lP (by omega) (by omega)) fun|_,⟨ki,bs,rfl,gj,hb⟩=>⟨rfl,?_⟩
      refine fJ<|wg 1 rfl<|wx rfl (fb h1 h3 ht hp 3 0 (by omega)) fun|_,⟨⟨o1,n1,i1,a1⟩,bs,rfl,ba,cz⟩=>⟨rfl,?_⟩
      exact lF<|wg 1 rfl<|wt rfl ⟨.mk 1 (nm 120 ki) [] [⟨o1,n1,i1,a1⟩] [] [],bs,left,rfl,.my ki gj ba,by omega,by simp[St.sub,St.ns]⟩
    ·refine Wp.aQ rfl au (fun h=> ?_) (fun h=> ?_)
     ·refine wn rfl af<|wn rfl au<|wn rfl au<|wn rfl au<|wn rfl au<|wn rfl au<|wn rfl au<|wg 1 rfl<|wx rfl (lP (by omega) (by omega)) fun|_,⟨ki,bs,rfl,gj,hb⟩=>⟨rfl,?_⟩
      refine fJ<|wg 1 rfl<|wx rfl (fb h1 h3 ht hp 3 0 (by omega)) fun|_,⟨⟨o1,n1,i1,a1⟩,bs,rfl,ba,cz⟩=>⟨rfl,?_⟩
      exact lF<|wg 1 rfl<|wt rfl ⟨.mk 1 (nm 120 ki) [] [⟨o1,n1,i1,a1⟩] [] [],bs,left,rfl,.my ki gj ba,by omega,by simp[St.sub,St.ns]⟩
     ·refine Wp.aQ rfl au (fun h=> ?_) (fun h=> ?_)
      ·refine wn rfl af<|wn rfl au<|wn rfl au<|wn rfl au<|wn rfl au<|wn rfl au<|wn rfl au<|wg 1 rfl<|wx rfl (lP (by omega) (by omega)) fun|_,⟨ki,bs,rfl,gj,hb⟩=>⟨rfl,?_⟩
       refine fJ<|wg 1 rfl<|wx rfl (fb h1 h3 ht hp 3 0 (by omega)) fun|_,⟨⟨o1,n1,i1,a1⟩,bs,rfl,ba,cz⟩=>⟨rfl,?_⟩
       exact lF<|wg 1 rfl<|wt rfl ⟨.mk 1 (nm 120 ki) [] [⟨o1,n1,i1,a1⟩] [] [],bs,left,rfl,.my ki gj ba,by omega,by simp[St.sub,St.ns]⟩
      ·refine Wp.aQ rfl au (fun h=> ?_) (fun h=> ?_)
       ·refine wn rfl af<|wn rfl au<|wn rfl au<|wn rfl au<|wn rfl au<|wn rfl au<|wg 1 rfl<|wx rfl (lP (by omega) (by omega)) fun|_,⟨ki,bs,rfl,gj,hb⟩=>⟨rfl,?_⟩
        refine fJ<|wg 1 rfl<|wx rfl (fb h1 h3 ht hp 3 0 (by omega)) fun|_,⟨⟨o1,n1,i1,a1⟩,bs,rfl,ba,cz⟩=>⟨rfl,?_⟩
        exact lF<|wg 1 rfl<|wt rfl ⟨.mk 1 (nm 120 ki) [] [⟨o1,n1,i1,a1⟩] [] [],bs,left,rfl,.my ki gj ba,by omega,by simp[St.sub,St.ns]⟩
       ·refine Wp.aQ rfl au (fun h=> ?_) (fun h=> ?_)
        ·refine wo rfl bl<|wg 1 rfl<|wx rfl (fc (dN ar).length (by omega)) fun|_,⟨to,bs,rfl,sL,hb⟩=>⟨rfl,?_⟩
         refine jo ?_
         (obtain⟨l,hl,ju,fy,dM,bF⟩:=AF sL cA;refine Wp.op rfl (aA ju rfl) rfl ?_)
         refine wg 1 rfl<|wo rfl bl<|wg 1 rfl<|wx rfl (fc (kj l).length (by omega)) fun|_,⟨hh,bs,rfl,sT,hb⟩=>⟨rfl,?_⟩
         refine gP<|Wp.dB rfl (po (n:=3)) (xK sL gg)<|wo rfl (He (by omega))<|wo rfl (aA (by assumption) rfl)<|wg 1 rfl ?_
         (obtain⟨n,hn,oD,iw⟩:=z8 sT bF;refine Wp.op rfl (aA oD rfl) rfl ?_)
         refine wg 1 rfl<|wl rfl (kR (c:=104) (n:=3) (by omega) (by omega)) rfl<|wo rfl (aA (mo (by omega)) rfl)<|wg 2 rfl<|wx rfl (zC h1 h3 ht hp (n:=n) (by omega)) fun|_,⟨es,bs,rfl,cb,fH,cg⟩=>⟨rfl,?_⟩
         exact MT<|wt rfl ⟨.mk 6 [(97+to).toUInt8] (nm 104 hh) es [] [],bs,left,rfl,.send to hh n hl hn cb fH,by omega,by simp[St.sub,St.ns]⟩
        ·refine Wp.aQ rfl au (fun h=> ?_) (fun h=> ?_)
         ·refine wo rfl bl<|wg 1 rfl<|wx rfl (fc (dN ar).length (by omega)) fun|_,⟨to,bs,rfl,sL,hb⟩=>⟨rfl,?_⟩
          refine jo ?_
          (obtain⟨l,hl,ju,fy,dM,bF⟩:=AF sL cA;refine Wp.op rfl (aA ju rfl) rfl ?_)
          refine wg 1 rfl<|wo rfl bl<|wg 1 rfl<|wx rfl (fc (kj l).length (by omega)) fun|_,⟨hh,bs,rfl,sT,hb⟩=>⟨rfl,?_⟩
          refine gP<|Wp.dB rfl (po (n:=3)) (xK sL gg)<|wo rfl (He (by omega))<|wo rfl (aA (by assumption) rfl)<|wg 1 rfl ?_
          (obtain⟨n,hn,oD,iw⟩:=z8 sT bF;refine Wp.op rfl (aA oD rfl) rfl ?_)
          refine wg 1 rfl<|wl rfl (kR (c:=104) (n:=3) (by omega) (by omega)) rfl<|wo rfl (aA (mo (by omega)) rfl)<|wg 2 rfl<|wx rfl (zC h1 h3 ht hp (n:=n) (by omega)) fun|_,⟨es,bs,rfl,cb,fH,cg⟩=>⟨rfl,?_⟩
          exact MT<|wt rfl ⟨.mk 6 [(97+to).toUInt8] (nm 104 hh) es [] [],bs,left,rfl,.send to hh n hl hn cb fH,by omega,by simp[St.sub,St.ns]⟩
         ·refine Wp.aQ rfl au (fun h=> ?_) (fun h=> ?_)
          ·(obtain⟨l,hl,ju,fy,dM,bF⟩:=AF kD cA;refine Wp.op rfl (aA ju rfl) rfl ?_)
           refine wg 1 rfl<|wo rfl bl<|wg 1 rfl<|wx rfl (fc (kj l).length (by omega)) fun|_,⟨hh,bs,rfl,sT,hb⟩=>⟨rfl,?_⟩
           refine hO<|wg 1 rfl<|wx rfl (fb h1 h3 ht hp 2 1 (by omega)) fun|_,⟨⟨o1,n1,i1,a1⟩,bs,rfl,ba,cz⟩=>⟨rfl,?_⟩
           refine MU<|wo rfl (aA (by assumption) rfl)<|wg 1 rfl ?_
           (obtain⟨n,hn,oD,iw⟩:=z8 sT bF;refine Wp.op rfl (aA oD rfl) rfl ?_)
           refine wg 1 rfl<|wl rfl (kR (c:=104) (n:=3) (by omega) (by omega)) rfl<|wo rfl (aA (mo (by omega)) rfl)<|wg 2 rfl<|wx rfl (zC h1 h3 ht hp (n:=n) (by omega)) fun|_,⟨es,bs,rfl,cb,fH,cg⟩=>⟨rfl,?_⟩
           dsimp only [dS,Ex.r,St.r,List.cons_append,List.nil_append];exact wg 1 rfl<|wo rfl (zT (Xx _) (by rw[uY,fH];show 1+n≤_;omega) (by rw[uY,fH];show(1+n)*56≤_;omega))<|wt rfl ⟨.mk 7 [] (nm 104 hh) (⟨o1,n1,i1,a1⟩::es) [] [],bs,left,rfl,.DM hh n hl hn (fun e h=>by rcases xG.1 h with rfl|h;exact ba.mono (by omega);exact cb e h) (by rw[xi,fH]),by omega,by simp[St.sub,St.ns]⟩
          ·refine Wp.aQ rfl au (fun h=> ?_) (fun h=> ?_)
           ·refine wn rfl af<|wn rfl au<|wg 1 rfl<|wx rfl (lP (by omega) (by omega)) fun|_,⟨ki,bs,rfl,gj,hb⟩=>⟨rfl,?_⟩
            refine fJ<|wg 1 rfl<|wx rfl (fb h1 h3 ht hp 3 0 (by omega)) fun|_,⟨⟨o1,n1,i1,a1⟩,bs,rfl,ba,cz⟩=>⟨rfl,?_⟩
            exact lF<|wg 1 rfl<|wt rfl ⟨.mk 1 (nm 120 ki) [] [⟨o1,n1,i1,a1⟩] [] [],bs,left,rfl,.my ki gj ba,by omega,by simp[St.sub,St.ns]⟩
           ·refine Wp.aQ rfl au (fun h=> ?_) (fun h=> ?_)
            ·refine wg 1 rfl<|wx rfl (fc 3 (by omega)) fun|_,⟨k,bs,rfl,hk,hb⟩=>⟨rfl,?_⟩
             refine fJ<|Wp.aQ rfl au (fun h=> ?_) (fun h=> ?_)
             ·exact wt rfl ⟨.mk 10 [] [] [] [] [],bs,left,rfl,.stop,by omega,by simp[St.sub,St.ns]⟩
             ·refine wg 1 rfl<|wx rfl (lP (by omega) (by omega)) fun|_,⟨ki,bs,rfl,gj,hb⟩=>⟨rfl,?_⟩
              refine mI<|wg 1 rfl<|wx rfl (fb h1 h3 ht hp 3 0 (by omega)) fun|_,⟨⟨o1,n1,i1,a1⟩,bs,rfl,ba,cz⟩=>⟨rfl,?_⟩
              exact lE<|wg 1 rfl<|wt rfl ⟨.mk 1 (nm 120 ki) [] [⟨o1,n1,i1,a1⟩] [] [],bs,left,rfl,.my ki gj ba,by omega,by simp[St.sub,St.ns]⟩
            ·refine wg 1 rfl<|wx rfl (lP (by omega) (by omega)) fun|_,⟨ki,bs,rfl,gj,hb⟩=>⟨rfl,?_⟩
             refine fJ<|wg 1 rfl<|wx rfl (fb h1 h3 ht hp 3 0 (by omega)) fun|_,⟨⟨o1,n1,i1,a1⟩,bs,rfl,ba,cz⟩=>⟨rfl,?_⟩
             exact lF<|wg 1 rfl<|wt rfl ⟨.mk 1 (nm 120 ki) [] [⟨o1,n1,i1,a1⟩] [] [],bs,left,rfl,.my ki gj ba,by omega,by simp[St.sub,St.ns]⟩
 |succ f=>
  refine wr rfl<|Wp.aQ rfl au (fun h=> ?_) (fun h=> ?_)
  ·refine wg 1 rfl<|wx rfl (ER h1 h3 ht bx hp 2 0 (by omega)) fun|_,⟨⟨o1,n1,i1,a1⟩,bs,rfl,ba,cz⟩=>⟨rfl,?_⟩
   exact hO<|wg 1 rfl<|wt rfl ⟨.mk 1 (nm 98 0) [] [⟨o1,n1,i1,a1⟩] [] [],bs,left,rfl,.Dg ba,by omega,by simp[St.sub,St.ns]⟩
  ·refine Wp.aQ rfl au (fun h=> ?_) (fun h=> ?_)
   ·refine Wp.aQ rfl ch (fun h=> ?_) (fun h=> ?_)
    ·refine wg 1 rfl<|wx rfl (fb h1 h3 ht hp 3 0 (by omega)) fun|_,⟨⟨o1,n1,i1,a1⟩,bs,rfl,ba,cz⟩=>⟨rfl,?_⟩
     refine hO<|wg 1 rfl ?_
     (have _:=ba;refine wx rfl (fb h1 h3 ht hp 3 0 (by omega)) ?_;rintro _ ⟨⟨o2,n2,i2,a2⟩,bs,rfl,fT,cg⟩;refine⟨rfl,?_⟩)
     exact MU<|wg 1 rfl<|wt rfl ⟨.mk 2 (nm 116 0) [] [⟨o1,n1,i1,a1⟩,⟨o2,n2,i2,a2⟩] [] [],bs,left,rfl,.put (by show 0<tables;omega) ba fT,by omega,by simp[St.sub,St.ns]⟩
    ·refine wn rfl au<|wn rfl au<|wn rfl au<|wn rfl au<|wn rfl au<|wn rfl au<|wn rfl au<|wn rfl au<|wn rfl au<|wg 1 rfl<|wx rfl (lP (by omega) (by omega)) fun|_,⟨ki,bs,rfl,gj,hb⟩=>⟨rfl,?_⟩
     refine fJ<|wg 1 rfl<|wx rfl (fb h1 h3 ht hp 3 0 (by omega)) fun|_,⟨⟨o1,n1,i1,a1⟩,bs,rfl,ba,cz⟩=>⟨rfl,?_⟩
     exact lF<|wg 1 rfl<|wt rfl ⟨.mk 1 (nm 120 ki) [] [⟨o1,n1,i1,a1⟩] [] [],bs,left,rfl,.my ki gj ba,by omega,by simp[St.sub,St.ns]⟩
   ·refine Wp.aQ rfl au (fun h=> ?_) (fun h=> ?_)
    ·refine Wp.aQ rfl ch (fun h=> ?_) (fun h=> ?_)
     ·refine wg 1 rfl<|wx rfl (fb h1 h3 ht hp 3 0 (by omega)) fun|_,⟨⟨o1,n1,i1,a1⟩,bs,rfl,ba,cz⟩=>⟨rfl,?_⟩
      exact hO<|wg 1 rfl<|wt rfl ⟨.mk 3 (nm 116 0) [] [⟨o1,n1,i1,a1⟩] [] [],bs,left,rfl,.del (by show 0<tables;omega) ba,by omega,by simp[St.sub,St.ns]⟩
     ·refine wn rfl au<|wn rfl au<|wn rfl au<|wn rfl au<|wn rfl au<|wn rfl au<|wn rfl au<|wn rfl au<|wg 1 rfl<|wx rfl (lP (by omega) (by omega)) fun|_,⟨ki,bs,rfl,gj,hb⟩=>⟨rfl,?_⟩
      refine fJ<|wg 1 rfl<|wx rfl (fb h1 h3 ht hp 3 0 (by omega)) fun|_,⟨⟨o1,n1,i1,a1⟩,bs,rfl,ba,cz⟩=>⟨rfl,?_⟩
      exact lF<|wg 1 rfl<|wt rfl ⟨.mk 1 (nm 120 ki) [] [⟨o1,n1,i1,a1⟩] [] [],bs,left,rfl,.my ki gj ba,by omega,by simp[St.sub,St.ns]⟩
    ·refine Wp.aQ rfl au (fun h=> ?_) (fun h=> ?_)
     ·refine wy rfl af<|wg 1 rfl<|wx rfl (ER h1 h3 ht bx hp 2 0 (by omega)) fun|_,⟨⟨o1,n1,i1,a1⟩,bs,rfl,ba,cz⟩=>⟨rfl,?_⟩
      refine hO<|wo rfl oI<|wg 1 rfl<|wx rfl (ih (d+1) f (by omega) _ _ (by omega)) fun|_,⟨th,bs,left,rfl,kJ,Ms,Mr⟩=>⟨rfl,?_⟩
      refine gP<|wo rfl oI<|wg 1 rfl ?_
      (have _:=kJ;refine wx rfl (ih (d+1) f (by omega) _ _ (by omega)) ?_;rintro _ ⟨el,bs,left,rfl,fH,di6,di5⟩;refine⟨rfl,?_⟩)
      dsimp only [dS,Ex.r,St.r,List.cons_append,List.nil_append];exact wg 1 rfl<|wt rfl ⟨.mk 4 [] [] [⟨o1,n1,i1,a1⟩] th el,bs,left,rfl,.cond ba kJ fH,by omega,by show _+(St.ns th+St.ns el)≤_;omega⟩
     ·refine Wp.aQ rfl au (fun h=> ?_) (fun h=> ?_)
      ·refine wy rfl af<|wg 1 rfl<|wx rfl (ER h1 h3 ht bx hp 2 0 (by omega)) fun|_,⟨⟨o1,n1,i1,a1⟩,bs,rfl,ba,cz⟩=>⟨rfl,?_⟩
       refine hO<|wo rfl oI<|wg 1 rfl<|wx rfl (ih (d+1) f (by omega) _ _ (by omega)) fun|_,⟨th,bs,left,rfl,kJ,Ms,Mr⟩=>⟨rfl,?_⟩
       refine gP<|wo rfl oI<|wg 1 rfl ?_
       (have _:=kJ;refine wx rfl (ih (d+1) f (by omega) _ _ (by omega)) ?_;rintro _ ⟨el,bs,left,rfl,fH,di6,di5⟩;refine⟨rfl,?_⟩)
       dsimp only [dS,Ex.r,St.r,List.cons_append,List.nil_append];exact wg 1 rfl<|wt rfl ⟨.mk 4 [] [] [⟨o1,n1,i1,a1⟩] th el,bs,left,rfl,.cond ba kJ fH,by omega,by show _+(St.ns th+St.ns el)≤_;omega⟩
      ·refine Wp.aQ rfl au (fun h=> ?_) (fun h=> ?_)
       ·refine Wp.aQ rfl af (fun h=> ?_) (fun h=> ?_)
        ·refine wg 1 rfl<|wx rfl (ER h1 h3 ht bx hp 2 0 (by omega)) fun|_,⟨⟨o1,n1,i1,a1⟩,bs,rfl,ba,cz⟩=>⟨rfl,?_⟩
         refine hO<|wo rfl oI<|wg 1 rfl<|wx rfl (ih (d+1) f (by omega) _ _ (by omega)) fun|_,⟨th,bs,left,rfl,kJ,Ms,Mr⟩=>⟨rfl,?_⟩
         exact gP<|wg 1 rfl<|wt rfl ⟨.mk 5 [] [] [⟨o1,n1,i1,a1⟩] th [],bs,left,rfl,.G3 ba kJ,by omega,by show _+(St.ns th+0)≤_;omega⟩
        ·refine wn rfl au<|wn rfl au<|wn rfl au<|wn rfl au<|wn rfl au<|wg 1 rfl<|wx rfl (lP (by omega) (by omega)) fun|_,⟨ki,bs,rfl,gj,hb⟩=>⟨rfl,?_⟩
         refine fJ<|wg 1 rfl<|wx rfl (fb h1 h3 ht hp 3 0 (by omega)) fun|_,⟨⟨o1,n1,i1,a1⟩,bs,rfl,ba,cz⟩=>⟨rfl,?_⟩
         exact lF<|wg 1 rfl<|wt rfl ⟨.mk 1 (nm 120 ki) [] [⟨o1,n1,i1,a1⟩] [] [],bs,left,rfl,.my ki gj ba,by omega,by simp[St.sub,St.ns]⟩
       ·refine Wp.aQ rfl au (fun h=> ?_) (fun h=> ?_)
        ·refine wo rfl bl<|wg 1 rfl<|wx rfl (fc (dN ar).length (by omega)) fun|_,⟨to,bs,rfl,sL,hb⟩=>⟨rfl,?_⟩
         refine jo ?_
         (obtain⟨l,hl,ju,fy,dM,bF⟩:=AF sL cA;refine Wp.op rfl (aA ju rfl) rfl ?_)
         refine wg 1 rfl<|wo rfl bl<|wg 1 rfl<|wx rfl (fc (kj l).length (by omega)) fun|_,⟨hh,bs,rfl,sT,hb⟩=>⟨rfl,?_⟩
         refine gP<|Wp.dB rfl (po (n:=3)) (xK sL gg)<|wo rfl (He (by omega))<|wo rfl (aA (by assumption) rfl)<|wg 1 rfl ?_
         (obtain⟨n,hn,oD,iw⟩:=z8 sT bF;refine Wp.op rfl (aA oD rfl) rfl ?_)
         refine wg 1 rfl<|wl rfl (kR (c:=104) (n:=3) (by omega) (by omega)) rfl<|wo rfl (aA (mo (by omega)) rfl)<|wg 2 rfl<|wx rfl (zC h1 h3 ht hp (n:=n) (by omega)) fun|_,⟨es,bs,rfl,cb,fH,cg⟩=>⟨rfl,?_⟩
         exact MT<|wt rfl ⟨.mk 6 [(97+to).toUInt8] (nm 104 hh) es [] [],bs,left,rfl,.send to hh n hl hn cb fH,by omega,by simp[St.sub,St.ns]⟩
        ·refine Wp.aQ rfl au (fun h=> ?_) (fun h=> ?_)
         ·refine wo rfl bl<|wg 1 rfl<|wx rfl (fc (dN ar).length (by omega)) fun|_,⟨to,bs,rfl,sL,hb⟩=>⟨rfl,?_⟩
          refine jo ?_
          (obtain⟨l,hl,ju,fy,dM,bF⟩:=AF sL cA;refine Wp.op rfl (aA ju rfl) rfl ?_)
          refine wg 1 rfl<|wo rfl bl<|wg 1 rfl<|wx rfl (fc (kj l).length (by omega)) fun|_,⟨hh,bs,rfl,sT,hb⟩=>⟨rfl,?_⟩
          refine gP<|Wp.dB rfl (po (n:=3)) (xK sL gg)<|wo rfl (He (by omega))<|wo rfl (aA (by assumption) rfl)<|wg 1 rfl ?_
          (obtain⟨n,hn,oD,iw⟩:=z8 sT bF;refine Wp.op rfl (aA oD rfl) rfl ?_)
          refine wg 1 rfl<|wl rfl (kR (c:=104) (n:=3) (by omega) (by omega)) rfl<|wo rfl (aA (mo (by omega)) rfl)<|wg 2 rfl<|wx rfl (zC h1 h3 ht hp (n:=n) (by omega)) fun|_,⟨es,bs,rfl,cb,fH,cg⟩=>⟨rfl,?_⟩
          exact MT<|wt rfl ⟨.mk 6 [(97+to).toUInt8] (nm 104 hh) es [] [],bs,left,rfl,.send to hh n hl hn cb fH,by omega,by simp[St.sub,St.ns]⟩
         ·refine Wp.aQ rfl au (fun h=> ?_) (fun h=> ?_)
          ·(obtain⟨l,hl,ju,fy,dM,bF⟩:=AF kD cA;refine Wp.op rfl (aA ju rfl) rfl ?_)
           refine wg 1 rfl<|wo rfl bl<|wg 1 rfl<|wx rfl (fc (kj l).length (by omega)) fun|_,⟨hh,bs,rfl,sT,hb⟩=>⟨rfl,?_⟩
           refine hO<|wg 1 rfl<|wx rfl (fb h1 h3 ht hp 2 1 (by omega)) fun|_,⟨⟨o1,n1,i1,a1⟩,bs,rfl,ba,cz⟩=>⟨rfl,?_⟩
           refine MU<|wo rfl (aA (by assumption) rfl)<|wg 1 rfl ?_
           (obtain⟨n,hn,oD,iw⟩:=z8 sT bF;refine Wp.op rfl (aA oD rfl) rfl ?_)
           refine wg 1 rfl<|wl rfl (kR (c:=104) (n:=3) (by omega) (by omega)) rfl<|wo rfl (aA (mo (by omega)) rfl)<|wg 2 rfl<|wx rfl (zC h1 h3 ht hp (n:=n) (by omega)) fun|_,⟨es,bs,rfl,cb,fH,cg⟩=>⟨rfl,?_⟩
           dsimp only [dS,Ex.r,St.r,List.cons_append,List.nil_append];exact wg 1 rfl<|wo rfl (zT (Xx _) (by rw[uY,fH];show 1+n≤_;omega) (by rw[uY,fH];show(1+n)*56≤_;omega))<|wt rfl ⟨.mk 7 [] (nm 104 hh) (⟨o1,n1,i1,a1⟩::es) [] [],bs,left,rfl,.DM hh n hl hn (fun e h=>by rcases xG.1 h with rfl|h;exact ba.mono (by omega);exact cb e h) (by rw[xi,fH]),by omega,by simp[St.sub,St.ns]⟩
          ·refine Wp.aQ rfl au (fun h=> ?_) (fun h=> ?_)
           ·refine wy rfl af<|wg 1 rfl<|wx rfl (fc 2 (by omega)) fun|_,⟨k,bs,rfl,hk,hb⟩=>⟨rfl,?_⟩
            refine fJ<|Wp.aQ rfl au (fun h=> ?_) (fun h=> ?_)
            ·refine wg 1 rfl<|wx rfl (zC h1 h3 ht hp (n:=2) (by omega)) fun|_,⟨es,bs,rfl,cb,fH,cg⟩=>⟨rfl,?_⟩
             refine mI<|wo rfl oI<|wg 1 rfl<|wx rfl (ih (d+1) f (by omega) _ _ (by omega)) fun|_,⟨th,bs,left,rfl,kJ,Ms,Mr⟩=>⟨rfl,?_⟩
             refine DS ?_
             (obtain⟨a,b,rfl⟩:=Me fH;exact wt rfl ⟨.mk 8 [] [] [a,b] [] th,bs,left,rfl,.store (cb a (by simp)) (cb b (by simp)) kJ,by omega,by show _+(0+St.ns th)≤_;omega⟩)
            ·refine wg 1 rfl<|wx rfl (lP (by omega) (by omega)) fun|_,⟨ki,bs,rfl,gj,hb⟩=>⟨rfl,?_⟩
             refine mI<|wg 1 rfl<|wx rfl (fb h1 h3 ht hp 3 0 (by omega)) fun|_,⟨⟨o1,n1,i1,a1⟩,bs,rfl,ba,cz⟩=>⟨rfl,?_⟩
             refine lE<|wo rfl oI<|wg 1 rfl<|wx rfl (ih (d+1) f (by omega) _ _ (by omega)) fun|_,⟨th,bs,left,rfl,kJ,Ms,Mr⟩=>⟨rfl,?_⟩
             dsimp only [dS,Ex.r,St.r,List.cons_append,List.nil_append];exact wg 1 rfl<|wt rfl ⟨.mk 9 (nm 120 ki) [] [⟨o1,n1,i1,a1⟩] [] th,bs,left,rfl,.GO ki gj ba kJ,by omega,by show _+(0+St.ns th)≤_;omega⟩
           ·refine Wp.aQ rfl au (fun h=> ?_) (fun h=> ?_)
            ·refine wg 1 rfl<|wx rfl (fc 3 (by omega)) fun|_,⟨k,bs,rfl,hk,hb⟩=>⟨rfl,?_⟩
             refine fJ<|Wp.aQ rfl au (fun h=> ?_) (fun h=> ?_)
             ·exact wt rfl ⟨.mk 10 [] [] [] [] [],bs,left,rfl,.stop,by omega,by simp[St.sub,St.ns]⟩
             ·refine wg 1 rfl<|wx rfl (lP (by omega) (by omega)) fun|_,⟨ki,bs,rfl,gj,hb⟩=>⟨rfl,?_⟩
              refine mI<|wg 1 rfl<|wx rfl (fb h1 h3 ht hp 3 0 (by omega)) fun|_,⟨⟨o1,n1,i1,a1⟩,bs,rfl,ba,cz⟩=>⟨rfl,?_⟩
              exact lE<|wg 1 rfl<|wt rfl ⟨.mk 1 (nm 120 ki) [] [⟨o1,n1,i1,a1⟩] [] [],bs,left,rfl,.my ki gj ba,by omega,by simp[St.sub,St.ns]⟩
            ·refine wg 1 rfl<|wx rfl (lP (by omega) (by omega)) fun|_,⟨ki,bs,rfl,gj,hb⟩=>⟨rfl,?_⟩
             refine fJ<|wg 1 rfl<|wx rfl (fb h1 h3 ht hp 3 0 (by omega)) fun|_,⟨⟨o1,n1,i1,a1⟩,bs,rfl,ba,cz⟩=>⟨rfl,?_⟩
             exact lF<|wg 1 rfl<|wt rfl ⟨.mk 1 (nm 120 ki) [] [⟨o1,n1,i1,a1⟩] [] [],bs,left,rfl,.my ki gj ba,by omega,by simp[St.sub,St.ns]⟩
theorem bf2(h1:1≤ints)(h3:ints≤3)(ht:tables≤1)(bx:flags≤2)(hp:params≤2)(kD:own<(dN ar).length)(gg:(dN ar).length≤3)(cA:∀l∈ar,1≤l.length∧l.length≤3∧∀n∈l,n≤2):
 ∀(L:Nat),L≤12→∀(d f:Nat),d+f=3→∀(l:List St) (bs:List UInt8) (left:Nat),left≤L→left+St.ns l≤12→kY ⟨⟨ints,tables,flags,params⟩,ar,own⟩ (f+1) l→Rn F X 6 1 (iD d:: .sl (St.rs l)::dS ints tables flags own ar params bs left) (fun o=>∃l' eT oN,o= .sl (St.rs l')::dS ints tables flags own ar params eT oN∧kY ⟨⟨ints,tables,flags,params⟩,ar,own⟩ (f+1) l'∧eT.length≤bs.length∧oN+St.ns l'≤left+St.ns l):=by
 intro L
 induction L with
 |zero=>
  intro hL d f hd l bs left hl hn hb;obtain rfl:left=0:=by omega
  refine wr rfl<|wo rfl bl<|Wp.aQ rfl ch (fun h=> ?_) (fun h=> ?_)
  ·exact wg 1 rfl<|wt rfl ⟨l,bs,0,rfl,hb,by omega,by omega⟩
  ·exact wt rfl ⟨l,bs,0,rfl,hb,by omega,by omega⟩
 |succ L ih=>
  intro hL d f hd l bs left hl hn hb;have ihb:∀(d f:Nat),d+f=3→∀(bs:List UInt8) (left:Nat),left≤L→Rn F X 6 0 [iD ints,iD tables,iD flags,iD own,.sl (dN ar),iD params,.sl (bO bs),iD left,iD d] (R7 ints tables flags own ar params bs left f):=by
   intro d f hd bs left hl;refine wr rfl<|Wp.jump rfl ?_;refine(ih (by omega) d f hd [] bs left hl (by show left+0≤12;omega) (fun s h=>by cases h)).mono ?_;rintro _ ⟨l',eT,oN,rfl,q1,q2,q3⟩;exact⟨l',eT,oN,rfl,q1,q2,q3⟩
  have bc:=mW l;refine wr rfl<|wo rfl bl<|Wp.aQ rfl ch (fun h=> ?_) (fun h=> ?_)
  ·refine Wp.aQ rfl ch (fun h=> ?_) (fun h=> ?_)
   ·refine wg 1 rfl<|wx rfl (fc 14 (by omega)) fun|_,⟨k,bs,rfl,hk,hkb⟩=>⟨rfl,?_⟩
    refine jo<|Wp.aQ rfl au (fun h=> ?_) (fun h=> ?_)
    ·exact wt rfl ⟨l,bs,left,rfl,hb,by omega,by omega⟩
    ·refine wo rfl oW<|wg 1 rfl<|wx rfl (bp6 h1 h3 ht bx hp kD gg cA ihb d f hd k _ _ hk (by omega)) fun|_,⟨⟨kk,n1,n2,es,th,el⟩,bs,CO,rfl,hs,hsb,hsn⟩=>⟨rfl,?_⟩
     dsimp only [dS,Ex.r,St.r,List.cons_append,List.nil_append];refine wg 2 rfl<|wo rfl (fZ rfl rfl (by rw[I'];omega) (by rw[I'];omega))<|Wp.jump rfl (Rn.mono (ds:=iD d:: .sl (St.rs l++[St.r ⟨kk,n1,n2,es,th,el⟩])::dS ints tables flags own ar params bs CO) (by rw[WL];exact ih (by omega) d f hd _ bs CO (by omega) (by rw[Po];omega) (fun s h=>by rcases xF.1 h with h|h;exact hb s h;rw[xy] at h;subst h;exact hs)) (by rintro _ ⟨l',eT,oN,rfl,q1,q2,q3⟩;rw[Po] at q3;exact⟨l',eT,oN,rfl,q1,by omega,by omega⟩))
   ·exact wt rfl ⟨l,bs,left,rfl,hb,by omega,by omega⟩
  ·exact wt rfl ⟨l,bs,left,rfl,hb,by omega,by omega⟩
theorem bv4(h1:1≤ints)(h3:ints≤3)(ht:tables≤1)(bx:flags≤2)(hp:params≤2)(kD:own<(dN ar).length)(gg:(dN ar).length≤3)(cA:∀l∈ar,1≤l.length∧l.length≤3∧∀n∈l,n≤2){bs:List UInt8}{left:Nat}(hl:left≤12):Rn F X 6 0 [iD ints,iD tables,iD flags,iD own,.sl (dN ar),iD params,.sl (bO bs),iD left,iD 0] (R7 ints tables flags own ar params bs left 3):=by
 refine wr rfl<|Wp.jump rfl ?_;refine(bf2 h1 h3 ht bx hp kD gg cA 12 (by omega) 0 3 (by omega) [] bs left hl (by show left+0≤12;omega) (fun s h=>by cases h)).mono ?_;rintro _ ⟨l',eT,oN,rfl,q1,q2,q3⟩;exact⟨l',eT,oN,rfl,q1,q2,q3⟩
end
end Go.Proofs.YtnjdjocokegphaaGreatDoor
namespace Go.Fl
open Go.Ex
structure Cd where
 params:UInt8
 bytes:List UInt8
structure Pt where
 ints:UInt8
 tables:UInt8
 hs:List Cd
 second:List Cd
def Cd.d(c:Cd):List D:=[bD c.params.toNat,.sl (bO c.bytes)]
def Pt.d(p:Pt):List D:=[bD p.ints.toNat,bD p.tables.toNat,.sl (p.hs.map Cd.d),.sl (p.second.map Cd.d)]
def bi(c k:Nat):List aL:=(List.range k).map (nm c)
structure qR (ints tables flags own:Nat) (ar:List (List Nat)) (al:List Nat) (k:Nat) (h:Hn):Prop where
 name:h.name=nm 104 k
 lH:∃n,al[k]? =some n∧h.params=bi 112 n∧kY ⟨⟨ints,tables,flags,n⟩,ar,own⟩ 4 h.body
 n:St.ns h.body≤12
end Go.Fl
namespace Go.Proofs.YtnjdjocokegphaaGreatDoor
open Go.Ex Go.RowKit Go.Fl
section
variable{X:Nat→List D→Option (List D)}
theorem AE{α:Type}{f:α→List D}{l:List α}{i:Nat}(h:i<(l.map f).length):∃a,l[i]? =some a∧(l.map f)[i]? =some (f a):=by
 have hi:i<l.length:=by rw[←xm f];exact h
 exact⟨l[i],xc hi,by rw[xx,xc hi];rfl⟩
theorem wZ(a b:Nat):Rn F X 8 0 [jD a,jD b] (·=[jD (min a b)]):=by
 refine wr rfl<|Wp.aQ rfl af (fun h=> ?_) (fun h=> ?_)
 ·exact wt rfl (by show[jD a]=_;rw[Nat.min_eq_left (by omega)])
 ·exact wt rfl (by show[jD b]=_;rw[Nat.min_eq_right (by omega)])
theorem OX(l:List Nat)(n:Nat):kj l++[[iD n]]=kj (l++[n]):=by simp[kj]
theorem zN(l:List Nat):(kj l).length=l.length:=xm _
def ArQ(p:Pt)(o:List D):Prop:=∃l,o=[.sl (kj l)]∧l.length=min 3 (max 1 (max p.hs.length p.second.length))∧∀n∈l,n≤2
theorem ba7(p:Pt):∀(f i:Nat),i+f=3→∀(l:List Nat),l.length=min i (max 1 (max p.hs.length p.second.length))→(∀n∈l,n≤2)→Rn F X 9 1 (.sl (kj l)::iD i::[bD p.ints.toNat,bD p.tables.toNat,.sl (p.hs.map Cd.d),.sl (p.second.map Cd.d)]) (ArQ p):=by
 intro f
 induction f with
 |zero=>
  intro i hi l hl hn;obtain rfl:i=3:=by omega
  exact wr rfl<|wg 1 rfl<|wt rfl ⟨l,rfl,hl,hn⟩
 |succ f ih=>
  intro i hi l hl hn;obtain⟨pi,pt,hs,second⟩:=p;have hA:(hs.map Cd.d).length=hs.length:=xm _;have hB:(second.map Cd.d).length=second.length:=xm _;dsimp only at hl ih⊢;have dW:l.length=min i (max 1 (max hs.length second.length)):=hl;refine wr rfl<|wy rfl af<|wo rfl bl<|Wp.aQ rfl af (fun h=> ?_) (fun h=> ?_)
  ·(obtain⟨a,ha,hd⟩:=AE (f:=Cd.d) (l:=hs) (i:=i) (by omega);refine Wp.op rfl (aA hd rfl) rfl ?_)
   refine wg 2 rfl<|mK<|wo rfl (j4 (b:=3) .u8 (by omega))<|wo rfl oC<|wg 2 rfl<|wo rfl (fZ rfl rfl (by rw[zN];omega) (by rw[zN];omega))<|kf<|wo rfl oA ?_
   (have:=ih (i+1) (by omega) (l++[a.params.toNat%3]) (by simp;omega) (fun n h=>by rcases xF.1 h with h|h;exact hn n h;rw[xy] at h;omega);rw[←OX] at this;exact Wp.jump rfl this)
  ·refine Wp.aQ rfl au (fun h=> ?_) (fun h=> ?_)
   ·refine wg 2 rfl<|wo rfl (fZ rfl rfl (by rw[zN];omega) (by rw[zN];omega))<|wo rfl oA<|mK ?_
    (have:=ih (i+1) (by omega) (l++[1]) (by simp;omega) (fun n h=>by rcases xF.1 h with h|h;exact hn n h;rw[xy] at h;omega);rw[←OX] at this;exact Wp.jump rfl this)
   ·refine wo rfl bl<|Wp.aQ rfl af (fun h=> ?_) (fun h=> ?_)
    ·(obtain⟨a,ha,hd⟩:=AE (f:=Cd.d) (l:=second) (i:=i) (by omega);refine Wp.op rfl (aA hd rfl) rfl ?_)
     refine wg 1 rfl<|mK<|wg 1 rfl<|wo rfl (j4 (b:=3) .u8 (by omega))<|wo rfl oC<|wg 2 rfl<|kf<|wo rfl (fZ rfl rfl (by rw[zN];omega) (by rw[zN];omega))<|wo rfl oA ?_
     (have:=ih (i+1) (by omega) (l++[a.params.toNat%3]) (by simp;omega) (fun n h=>by rcases xF.1 h with h|h;exact hn n h;rw[xy] at h;omega);rw[←OX] at this;exact Wp.jump rfl this)
    ·exact wo rfl oA<|Wp.jump rfl (ih (i+1) (by omega) l (by show l.length=min (i+1) (max 1 (max hs.length second.length));omega) hn)
theorem bn9(p:Pt):Rn F X 9 0 p.d (ArQ p):=by
 obtain⟨pi,pt,hs,second⟩:=p;refine wr rfl<|Wp.jump rfl ?_;exact ba7 ⟨pi,pt,hs,second⟩ 3 0 (by omega) [] (by simp) (fun n h=>by cases h)
theorem aX1(l:List UInt8)(k:Nat):(bO l).take k=bO (l.take k):=by simp[bO,List.map_take]
variable{ints tables flags own:Nat}{ar:List (List Nat)}
def HsQ(ints tables flags own:Nat)(ar:List (List Nat))(al:List Nat)(m:Nat)(o:List D):Prop:=∃(hs:List Hn) (params:Nat) (bs:List UInt8) (left:Nat),o= .sl (hs.map Hn.r)::dS ints tables flags own ar params bs left∧hs.length=m∧∀k h,hs[k]? =some h→qR ints tables flags own ar al k h
theorem bp5(c k:Nat):strs (bi c k)=kn c k:=by simp[strs,bi,kn]
theorem aT1(h1:1≤ints)(h3:ints≤3)(ht:tables≤1)(bx:flags≤2)(kD:own<(dN ar).length)(gg:(dN ar).length≤3)(cA:∀l∈ar,1≤l.length∧l.length≤3∧∀n∈l,n≤2){al:List Nat}(bm:ar[own]? =some al)(cs:List Cd)(bZ:cs.length≤al.length):
 ∀(f i:Nat),i+f=cs.length→∀(hs:List Hn) (params:Nat) (bs:List UInt8) (left:Nat),hs.length=i→(∀k h,hs[k]? =some h→qR ints tables flags own ar al k h)→Rn F X 10 1 (.sl (hs.map Hn.r):: .sl (cs.map Cd.d)::jD (cs.map Cd.d).length::iD i::dS ints tables flags own ar params bs left) (HsQ ints tables flags own ar al cs.length):=by
 have hA:(cs.map Cd.d).length=cs.length:=xm _;have aI6:al.length≤3:=by
  have:=xu bm;exact(cA al this).2.1
 intro f
 induction f with
 |zero=>
  intro i hi hs params bs left hl hk;exact wr rfl<|wn rfl af<|wt rfl ⟨hs,params,bs,left,rfl,by omega,hk⟩
 |succ f ih=>
  intro i hi hs params bs left hl hk;obtain⟨l,rm,ju,fy,dM,bF⟩:=AF kD cA;obtain rfl:l=al:=by rw[bm] at rm;cases rm;rfl
  have nO:(hs.map Hn.r).length=hs.length:=xm _;obtain⟨n,hn,oD,iw⟩:=z8 (l:=l) (k:=i) (by rw[zN];omega) bF;obtain⟨a,ha,hd⟩:=AE (f:=Cd.d) (l:=cs) (i:=i) (by omega);refine wr rfl<|wy rfl af<|wo rfl (aA hd rfl)<|wg 1 rfl<|dC<|wo rfl (aA ju rfl)<|wg 1 rfl<|wo rfl (aA oD rfl)<|wg 1 rfl<|fJ<|wo rfl bl<|wl rfl (wZ _ 40) rfl<|wo rfl (kZ (by omega))<|wl rfl (kR (c:=104) (n:=3) (by omega) (by omega)) rfl<|om<|wo rfl (aA (mo (by omega)) rfl)<|wg 1 rfl<|wl rfl (kR (c:=112) (n:=n) (by omega) (by omega)) rfl<|wg 1 rfl ?_;rw[aX1];refine wx rfl (bv4 h1 h3 ht bx iw kD gg cA (left:=12) (by omega)) fun|_,⟨l2,bs,left,rfl,cz,cg,kO⟩=>⟨rfl,?_⟩
  dsimp only [dS,Ex.r,St.r,List.cons_append,List.nil_append,jT,jS,jR,jQ,jP];refine wg 2 rfl<|wo rfl oP<|wo rfl oA<|Wp.jump rfl ?_;have:=ih (i+1) (by omega) (hs++[⟨nm 104 i,bi 112 n,l2⟩]) n bs left (by simp;omega) (fun k h hh=>by
   rcases Nat.lt_or_ge k hs.length with aX|dX
   ·rw[xw aX] at hh;exact hk k h hh
   ·rw[xq dX] at hh;have h0:k - hs.length=0:=by
     rcases xI (k - hs.length) with h|h
     ·exact h
     ·rw[List.getElem?_eq_none (by simp;omega)] at hh;cases hh
    rw[h0] at hh;cases hh;obtain rfl:k=i:=by omega
    exact⟨rfl,⟨n,hn,rfl,cz⟩,by show St.ns l2≤12;omega⟩)
  have e:(hs++[(⟨nm 104 i,bi 112 n,l2⟩:Hn)]).map Hn.r=hs.map Hn.r++[[.str (nm 104 i),.sl (kn 112 n),.sl (St.rs l2)]]:=by
   rw[List.map_append];show _++[[_,D.sl (strs (bi 112 n)),_]]=_
   rw[bp5]
  rw[e] at this;exact this
theorem wN(h1:1≤ints)(h3:ints≤3)(ht:tables≤1)(bx:flags≤2)(kD:own<(dN ar).length)(gg:(dN ar).length≤3)(cA:∀l∈ar,1≤l.length∧l.length≤3∧∀n∈l,n≤2){al:List Nat}(bm:ar[own]? =some al){cs:List Cd}(bZ:cs.length≤al.length){params left:Nat}{bs:List UInt8}:
 Rn F X 10 0 [iD ints,iD tables,iD flags,iD own,.sl (dN ar),iD params,.sl (bO bs),iD left,.sl (cs.map Cd.d)] (HsQ ints tables flags own ar al cs.length):=by
 refine wr rfl<|wo rfl bl<|Wp.jump rfl ?_;exact aT1 h1 h3 ht bx kD gg cA bm cs bZ cs.length 0 (by omega) [] params bs left rfl (fun k h hh=>by simp at hh)
end
end Go.Proofs.YtnjdjocokegphaaGreatDoor
