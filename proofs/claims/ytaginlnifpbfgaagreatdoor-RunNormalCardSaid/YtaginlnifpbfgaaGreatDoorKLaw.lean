/- The law, and its closed call awake. -/
import Derived.Test.YtaginlnifpbfgaaGreatDoorP7
import Derived.Test.YtaginlnifpbfgaaGreatDoorX11
import Derived.KernelRfl
import Derived.Test.YtaginlnifpbfgaaGreatDoorP1
import Derived.Test.YtaginlnifpbfgaaGreatDoorT2
import Derived.Test.YtaginlnifpbfgaaGreatDoorT3
import Derived.Test.YtaginlnifpbfgaaGreatDoorT4
import Derived.Test.YtaginlnifpbfgaaGreatDoorT5
import Derived.Test.YtaginlnifpbfgaaGreatDoorT6
import Derived.Test.YtaginlnifpbfgaaGreatDoorKAwake
set_option linter.unusedVariables false
set_option linter.unusedSimpArgs false
set_option maxHeartbeats 4000000
set_option maxRecDepth 100000
namespace Go.Proofs.YtaginlnifpbfgaaGreatDoor
open Go.Ex Go.RowKit Go.Fl
theorem bC8{n:Int}(h:(Lit.int .u8 n).wf=true):∃b:UInt8,D.int .u8 n=bD b.toNat:=by
 have h1:0≤n∧n≤255:=by
  have:=h;simp only [Lit.wf,xf,decide_eq_true_eq] at this;have h1:IntKind.min .u8=0:=by decide
  have h2:IntKind.max .u8=255:=by decide
  rw[h1,h2] at this;exact this
 refine⟨UInt8.ofNat n.toNat,?_⟩;show D.int .u8 n=D.int .u8 (((UInt8.ofNat n.toNat).toNat:Nat):Int);rw[UInt8.toNat_ofNat']
 congr 1
 omega
section
variable{ds:List D}
theorem E8(h:TR Tryz.prog 5 ds):∃b:UInt8,ds=[bD b.toNat]:=by
 obtain⟨n,rfl,hn⟩:=h.bf2 Tryz.underlying5;obtain⟨b,hb⟩:=bC8 hn;exact⟨b,by rw[hb]⟩
theorem Xe(h:TR Tryz.prog 22 ds):∃l:List UInt8,ds=[.sl (bX l)]:=by
 obtain⟨rows,rfl,_,hr⟩:=h.Og Tryz.underlying22;obtain⟨l,rfl⟩:=JS (f:=fun b:UInt8=>[D.int .u8 (b.toNat:Nat)]) fun row hm=>E8 (hr row hm)
 exact⟨l,rfl⟩
theorem bC1(h:TR Tryz.prog 194 ds):∃c:Cd,ds=c.d:=by
 obtain⟨a,r,rfl,h1,h⟩:=(h.N0 Tryz.underlying194).cons_inv;obtain⟨b,r,rfl,h2,h⟩:=h.cons_inv;obtain rfl:=h.Pe;obtain⟨x,rfl⟩:=E8 h1;obtain⟨l,rfl⟩:=Xe h2;exact⟨⟨x,l⟩,rfl⟩
theorem Xd(h:TR Tryz.prog 174 ds):∃l:List Cd,ds=[.sl (l.map Cd.d)]:=by
 obtain⟨rows,rfl,_,hr⟩:=h.Og Tryz.underlying174;obtain⟨l,rfl⟩:=JS (f:=Cd.d) fun row hm=>bC1 (hr row hm)
 exact⟨l,rfl⟩
theorem bC0(h:TR Tryz.prog 176 ds):∃p:Pt,ds=p.d:=by
 obtain⟨a,r,rfl,h1,h⟩:=(h.N0 Tryz.underlying176).cons_inv;obtain⟨b,r,rfl,h2,h⟩:=h.cons_inv;obtain⟨c,r,rfl,h3,h⟩:=h.cons_inv;obtain⟨d,r,rfl,h4,h⟩:=h.cons_inv;obtain rfl:=h.Pe;obtain⟨x,rfl⟩:=E8 h1;obtain⟨y,rfl⟩:=E8 h2;obtain⟨l,rfl⟩:=Xd h3;obtain⟨m,rfl⟩:=Xd h4;exact⟨⟨x,y,l,m⟩,rfl⟩
theorem bB9(h:TR Tryz.prog 25 ds):∃p:vF,ds=p.d:=by
 obtain⟨a,r,rfl,h1,h⟩:=(h.N0 Tryz.underlying25).cons_inv;obtain⟨b,r,rfl,h2,h⟩:=h.cons_inv;obtain⟨c,r,rfl,h3,h⟩:=h.cons_inv;obtain rfl:=h.Pe;obtain⟨x,rfl⟩:=E8 h1;obtain⟨l,rfl⟩:=Xe h2;obtain⟨rows,rfl,_,hr⟩:=h3.Og Tryz.underlying23;obtain⟨m,rfl⟩:=JS (f:=Pt.d) fun row hm=>bC0 (hr row hm)
 exact⟨⟨x,l,m⟩,rfl⟩
end
def XA(i:Nat)(ds:List D):Option (List D):=match i,ds with|130,[]=>some [.bool true]|_,_=>none
theorem bi3:Mv aL F:=⟨ok0,ok1,ok2,ok3,ok4,ok5,ok6,ok7,ok8,ok9,cF7,cF6,cF5,cF4,cF3,cF2,cF1,cF0,cE9,cE8,cE7,cE6,cE5,cE4,cE3,cE2,cE1,cE0,cD9,cD8,cD7,cD6,cD5,cD4,cD3,cD2,cD1,cD0,cC9,cC8,cC7,cC6,cC5,cC4,cC3,cC2,cC1,cC0,cB9,cB8,cB7,cB6,cB5,cB4,cB3,cB2,cB1,cB0,cA9,cA8,cA7,cA6,cA5,cA4,cA3,cA2,cA1,cA0,cz9,cz8,cz7,cz6,cz5,cz4,cz3,cz2,cz1,cz0,cy9,cy8,cy7,cy6,cy5,cy4,cy3,cy2,cy1,cy0,cx9,cx8,cx7,cx6,cx5,cx4,cx3,cx2,cx1,cx0,cw9,cw8,bP9,bP8,bP7,bP6,bP5,bP4,bP3,bP2,bP1,bP0,bO9,bO8,bO7,bO6,bO5,bO4,bO3,bO2,bO1,bO0,bN9,bN8,bN7,bN6,bN5,bN4,bN3,bN2,bN1,bN0,trivial⟩
theorem bi7:∀(i:Nat) (fd:FD),F[i]? =some fd→aL fd∧S[i]? =some (fd.f,fd.sg):=by
 intro i fd h;refine⟨bi3.get i fd h,?_⟩;have e:S.take F.length=F.map (fun fd=>(fd.f,fd.sg)):=by rfl
 have hi:i<F.length:=(xe.1 h).1;have e2:(S.take F.length)[i]? =some (fd.f,fd.sg):=by rw[e,xx,h];rfl
 rwa [List.getElem?_take_of_lt hi] at e2
theorem bQ9{w:World}(h:kZ w)(hs:LG.length≤w.heap.size):K.kZ w:=⟨hs,h⟩
theorem bC3:∀(i:Nat) (ds cA:List D) (f:Nat) (sg:aD),XA i ds=some cA→S[i]? =some (f,sg)→v9 Tryz.prog kZ 8 LG f sg ds cA:=by
 intro i ds cA f sg h hs;unfold XA at h;split at h
 ·cases h;obtain⟨rfl,rfl⟩:f=4∧sg=⟨[],[],0,.chan (some 1),[]⟩:=by
   have:S[130]? =some (4,⟨[],[],0,.chan (some 1),[]⟩):=by rfl
   rw[this] at hs;cases hs;exact⟨rfl,rfl⟩
  exact aL8 fun w hw hz=>K.Vd (bQ9 hw hz)
 ·cases h
theorem ba5:Rn F XA 130 0 [] (·=[.bool true]):=Rn.ofX rfl rfl rfl
theorem be8(p:vF)(b:UInt8):v9 Tryz.prog kZ 8 LG 3 Qu (p.d++[bD b.toNat]) [.bool true]:=by
 obtain⟨o,h,rfl⟩:=bo8 ba5 p b;obtain⟨n,h⟩:=(Dh F XA).1 h;exact(Ps iz vd hGE YL Xa aY5 bi7 bC3 n 129).2 _ _ _ _ h rfl
theorem aW9{w:World}(h:kZ w)(hz:LG.length≤w.heap.size)(p:vF)(b:UInt8){xs:List xM}(hx:ue w p.d xs){y:xM}(hy:y= .int .u8 (b.toNat:Nat)):Calls Tryz.prog 3 #[.agg ⟨xs⟩,y] w fun e w'=>e= .returned (.bool true)∧Below w.heap.size w w':=by
 subst hy;have lp:p.d.length=3:=rfl;refine aH6 (args':=[.agg ⟨xs⟩,.int .u8 (b.toNat:Nat)]) rfl rfl (be8 p b) h h hz ?_;have c1:ai (x6 LG (fun c=>(p.d++[bD b.toNat])[c]?) (zW w)) (.agg ⟨[cd 0,cd 1,cd 2]⟩) (.agg ⟨xs⟩):=
  bQ3 (ds:=p.d) (a:=0) (n:=3) lp (fun i d v h1 h2=>⟨by
   show(p.d++[bD b.toNat])[0+i]? =some d;rw[Nat.zero_add,xw (xe.1 h1).1];exact h1,hx.2.1 d (xu h1),hx.2.2 i d v h1 h2⟩) hx.1 rfl
 have c2:ai (x6 LG (fun c=>(p.d++[bD b.toNat])[c]?) (zW w)) (cd 3) (.int .u8 (b.toNat:Nat)):= .sym 3 (bD b.toNat) _ rfl rfl (.int _ _);exact .cons c1 (.cons c2 (.nil _))
end Go.Proofs.YtaginlnifpbfgaaGreatDoor
