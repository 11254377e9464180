/- The law, and its closed call awake. -/
import Derived.Test.YtnjdjocokegphaaGreatDoorP8
import Derived.Test.YtnjdjocokegphaaGreatDoorX10
import Derived.KernelRfl
import Derived.Test.YtnjdjocokegphaaGreatDoorP1
import Derived.Test.YtnjdjocokegphaaGreatDoorT2
import Derived.Test.YtnjdjocokegphaaGreatDoorT3
import Derived.Test.YtnjdjocokegphaaGreatDoorT4
import Derived.Test.YtnjdjocokegphaaGreatDoorT5
import Derived.Test.YtnjdjocokegphaaGreatDoorT6
import Derived.Test.YtnjdjocokegphaaGreatDoorKAwake
set_option linter.unusedVariables false
set_option linter.unusedSimpArgs false
set_option maxHeartbeats 4000000
set_option maxRecDepth 100000
namespace Go.Proofs.YtnjdjocokegphaaGreatDoor
open Go.Ex Go.RowKit Go.Fl
theorem Zd{n:Int}(h:(Lit.int .u8 n).wf=true):∃b:UInt8,D.int .u8 n=bD b.toNat:=by
 have h1:0≤n∧n≤255:=by
  have:=h;simp only [Lit.wf,xf,decide_eq_true_eq] at this;have h1:IntKind.min .u8=0:=by decide
  have h2:IntKind.max .u8=255:=by decide
  rw[h1,h2] at this;exact this
 refine⟨UInt8.ofNat n.toNat,?_⟩;show D.int .u8 n=D.int .u8 (((UInt8.ofNat n.toNat).toNat:Nat):Int);rw[UInt8.toNat_ofNat']
 congr 1
 omega
section
variable{ds:List D}
theorem DN(h:TR Tryz.prog 5 ds):∃b:UInt8,ds=[bD b.toNat]:=by
 obtain⟨n,rfl,hn⟩:=h.Jk Tryz.underlying5;obtain⟨b,hb⟩:=Zd hn;exact⟨b,by rw[hb]⟩
theorem tR(h:TR Tryz.prog 3 ds):∃n:Int,ds=[.int .i64 n]:=by
 obtain⟨n,rfl,hn⟩:=h.Jk Tryz.underlying3;exact⟨n,rfl⟩
theorem Yl(h:TR Tryz.prog 22 ds):∃l:List UInt8,ds=[.sl (bO l)]:=by
 obtain⟨rows,rfl,_,hr⟩:=h.zE Tryz.underlying22;obtain⟨l,rfl⟩:=xX (f:=fun b:UInt8=>[D.int .u8 (b.toNat:Nat)]) fun row hm=>DN (hr row hm)
 exact⟨l,rfl⟩
theorem Y'(h:TR Tryz.prog 51 ds):∃l:List Int,ds=[.sl (jh l)]:=by
 obtain⟨rows,rfl,_,hr⟩:=h.zE Tryz.underlying51;obtain⟨l,rfl⟩:=xX (f:=fun n:Int=>[D.int .i64 n]) fun row hm=>by
  obtain⟨n,e,_⟩:=(hr row hm).Jk Tryz.underlying2;exact⟨n,e⟩
 exact⟨l,rfl⟩
theorem bU6(h:TR Tryz.prog 169 ds):∃c:Cd,ds=c.d:=by
 obtain⟨a,r,rfl,h1,h⟩:=(h.uM Tryz.underlying169).cons_inv;obtain⟨b,r,rfl,h2,h⟩:=h.cons_inv;obtain rfl:=h.uU;obtain⟨x,rfl⟩:=DN h1;obtain⟨l,rfl⟩:=Yl h2;exact⟨⟨x,l⟩,rfl⟩
theorem Yk(h:TR Tryz.prog 149 ds):∃l:List Cd,ds=[.sl (l.map Cd.d)]:=by
 obtain⟨rows,rfl,_,hr⟩:=h.zE Tryz.underlying149;obtain⟨l,rfl⟩:=xX (f:=Cd.d) fun row hm=>bU6 (hr row hm)
 exact⟨l,rfl⟩
theorem bU2(h:TR Tryz.prog 151 ds):∃p:Pt,ds=p.d:=by
 obtain⟨a,r,rfl,h1,h⟩:=(h.uM Tryz.underlying151).cons_inv;obtain⟨b,r,rfl,h2,h⟩:=h.cons_inv;obtain⟨c,r,rfl,h3,h⟩:=h.cons_inv;obtain⟨d,r,rfl,h4,h⟩:=h.cons_inv;obtain rfl:=h.uU;obtain⟨x,rfl⟩:=DN h1;obtain⟨y,rfl⟩:=DN h2;obtain⟨l,rfl⟩:=Yk h3;obtain⟨m,rfl⟩:=Yk h4;exact⟨⟨x,y,l,m⟩,rfl⟩
theorem bU1(h:TR Tryz.prog 25 ds):∃p:DP,ds=p.d:=by
 obtain⟨a,r,rfl,h1,h⟩:=(h.uM Tryz.underlying25).cons_inv;obtain⟨b,r,rfl,h2,h⟩:=h.cons_inv;obtain⟨c,r,rfl,h3,h⟩:=h.cons_inv;obtain rfl:=h.uU;obtain⟨x,rfl⟩:=DN h1;obtain⟨l,rfl⟩:=Yl h2;obtain⟨rows,rfl,_,hr⟩:=h3.zE Tryz.underlying23;obtain⟨m,rfl⟩:=xX (f:=Pt.d) fun row hm=>bU2 (hr row hm)
 exact⟨⟨x,l,m⟩,rfl⟩
theorem bU3(h:TR Tryz.prog 48 ds):∃n:Nat,ds=[bD n]:=by
 obtain⟨n,rfl,hn⟩:=h.Jk Tryz.underlying48;obtain⟨b,hb⟩:=Zd hn;exact⟨b.toNat,by rw[hb]⟩
theorem bo4(h:TR Tryz.prog 53 ds):∃c:RC,ds=c.dd:=by
 obtain⟨a,r,rfl,h1,h⟩:=(h.uM Tryz.underlying53).cons_inv;obtain⟨b,r,rfl,h2,h⟩:=h.cons_inv;obtain⟨c,r,rfl,h3,h⟩:=h.cons_inv;obtain⟨d,r,rfl,h4,h⟩:=h.cons_inv;obtain rfl:=h.uU;obtain⟨e,r,rfl,k1,k⟩:=(h1.uM Tryz.underlying50).cons_inv;obtain⟨f,r,rfl,k2,k⟩:=k.cons_inv;obtain⟨g,r,rfl,k3,k⟩:=k.cons_inv;obtain⟨i,r,rfl,k4,k⟩:=k.cons_inv;obtain rfl:=k.uU;obtain⟨x0,rfl⟩:=bU3 k1;obtain⟨x1,rfl⟩:=tR k2;obtain⟨x2,rfl⟩:=tR k3;obtain⟨x3,rfl⟩:=tR k4;obtain⟨x4,rfl⟩:=tR h2;obtain⟨x5,rfl⟩:=tR h3;obtain⟨l,rfl⟩:=Y' h4;exact⟨⟨x0,x1,x2,x3,x4,x5,l⟩,rfl⟩
theorem bU4(h:TR Tryz.prog 108 ds):∃c:HI,ds=c.dd:=by
 obtain⟨a,r,rfl,h1,h⟩:=(h.uM Tryz.underlying108).cons_inv;obtain⟨b,r,rfl,h2,h⟩:=h.cons_inv;obtain⟨c,r,rfl,h3,h⟩:=h.cons_inv;obtain rfl:=h.uU;obtain⟨x,rfl⟩:=tR h1;obtain⟨y,rfl⟩:=tR h2;obtain⟨l,rfl⟩:=Y' h3;exact⟨⟨x,y,l⟩,rfl⟩
theorem bU5(h:TR Tryz.prog 106 ds):∃c:HR,ds=c.dd:=by
 obtain⟨a,r,rfl,h1,h⟩:=(h.uM Tryz.underlying106).cons_inv;obtain⟨b,r,rfl,h2,h⟩:=h.cons_inv;obtain rfl:=h.uU;obtain⟨e,r,rfl,k1,k⟩:=(h1.uM Tryz.underlying103).cons_inv;obtain⟨f,r,rfl,k2,k⟩:=k.cons_inv;obtain⟨g,r,rfl,k3,k⟩:=k.cons_inv;obtain rfl:=k.uU;obtain⟨x1,rfl⟩:=tR k1;obtain⟨x2,rfl⟩:=tR k2;obtain⟨x3,rfl⟩:=tR k3;obtain⟨rows,rfl,_,hr⟩:=h2.zE Tryz.underlying104;obtain⟨l,rfl⟩:=xX (f:=HI.dd) fun row hm=>bU4 (hr row hm)
 exact⟨⟨x1,x2,x3,l⟩,rfl⟩
theorem Yj(h:TR Tryz.prog 29 ds):∃p:ve,ds=p.d:=by
 obtain⟨a,r,rfl,h1,h⟩:=(h.uM Tryz.underlying29).cons_inv;obtain⟨b,r,rfl,h2,h⟩:=h.cons_inv;obtain⟨c,r,rfl,h3,h⟩:=h.cons_inv;obtain⟨d,r,rfl,h4,h⟩:=h.cons_inv;obtain rfl:=h.uU;obtain⟨p,rfl⟩:=bU1 h1;obtain⟨r1,rfl,_,hr⟩:=h2.zE Tryz.underlying26;obtain⟨l,rfl⟩:=xX (f:=RC.dd) fun row hm=>bo4 (hr row hm)
 obtain⟨r2,rfl,_,hs⟩:=h3.zE Tryz.underlying27;obtain⟨m,rfl⟩:=xX (f:=HR.dd) fun row hm=>bU5 (hs row hm)
 obtain⟨x,rfl⟩:=DN h4;exact⟨⟨p,l,m,x⟩,rfl⟩
end
def XA(i:Nat)(ds:List D):Option (List D):=match i,ds with|146,[]=>some [.bool true]|_,_=>none
theorem bw4:MQ aJ F:=⟨ok0,ok1,ok2,ok3,ok4,ok5,ok6,ok7,ok8,ok9,da0,cZ9,cZ8,cZ7,cZ6,cZ5,cZ4,cZ3,cZ2,cZ1,cZ0,cY9,cY8,cY7,cY6,cY5,cY4,cY3,cY2,cY1,cY0,cX9,cX8,cX7,cX6,cX5,cX4,cX3,cX2,cX1,cX0,cW9,cW8,cW7,cW6,cW5,cW4,cW3,cW2,cW1,cW0,cV9,cV8,cV7,cV6,cV5,cV4,cV3,cV2,cV1,cV0,cU9,cU8,cU7,cU6,cU5,cU4,cU3,cU2,cU1,cU0,cT9,cT8,cT7,cT6,cT5,cT4,cT3,cT2,cT1,cT0,cS9,cS8,cS7,cS6,cS5,cS4,cS3,cS2,cS1,cS0,cR9,cR8,cR7,cR6,cR5,cR4,cR3,cR2,cR1,ck3,ck1,cj9,cj8,cj7,cj6,cj5,cj4,cj3,cj2,cj1,cj0,ci9,ci8,ci7,ci6,ci5,ci4,ci3,ci2,ci1,ci0,ch9,ch8,ch7,ch6,ch5,ch4,ch3,ch2,ch1,ch0,cg9,cg8,cg7,cg6,cg5,cg4,cg3,cg2,cg1,cg0,cf9,cf8,cf7,cf6,trivial⟩
theorem bw8:∀(i:Nat) (fd:FD),F[i]? =some fd→aJ fd∧S[i]? =some (fd.f,fd.sg):=by
 intro i fd h;refine⟨bw4.get i fd h,?_⟩;have e:S.take F.length=F.map (fun fd=>(fd.f,fd.sg)):=by rfl
 have hi:i<F.length:=(xe.1 h).1;have e2:(S.take F.length)[i]? =some (fd.f,fd.sg):=by rw[e,xx,h];rfl
 rwa [List.getElem?_take_of_lt hi] at e2
theorem cl5{w:World}(h:kA w)(hs:LG.length≤w.heap.size):K.kA w:=⟨hs,h⟩
theorem bU8:∀(i:Nat) (ds cf:List D) (f:Nat) (sg:aG),XA i ds=some cf→S[i]? =some (f,sg)→uL Tryz.prog kA 8 LG f sg ds cf:=by
 intro i ds cf f sg h hs;unfold XA at h;split at h
 ·cases h;obtain⟨rfl,rfl⟩:f=4∧sg=⟨[],[],0,.chan (some 1),[]⟩:=by
   have:S[146]? =some (4,⟨[],[],0,.chan (some 1),[]⟩):=by rfl
   rw[this] at hs;cases hs;exact⟨rfl,rfl⟩
  exact aZ2 fun w hw hz=>K.V6 (cl5 hw hz)
 ·cases h
theorem bn8:Rn F XA 146 0 [] (·=[.bool true]):=Rn.ofX rfl rfl rfl
theorem bs9(p q:ve):uL Tryz.prog kA 8 LG 3 QJ (p.d++q.d) [.bool true]:=by
 obtain⟨o,h,rfl⟩:=bD6 bn8 p q;obtain⟨n,h⟩:=(B8 F XA).1 h;exact(PG kX vg hGE aa8 Yf bl7 bw8 bU8 n 145).2 _ _ _ _ h rfl
theorem bj9{w:World}(h:kA w)(hz:LG.length≤w.heap.size)(p q:ve){xs ys:List xM}(hx:pB w p.d xs)(hy:pB w q.d ys):Calls Tryz.prog 3 #[.agg ⟨xs⟩,.agg ⟨ys⟩] w fun e w'=>e= .returned (.bool true)∧Below w.heap.size w w':=by
 have lp:p.d.length=6:=rfl;have lq:q.d.length=6:=rfl;refine aU8 (args':=[.agg ⟨xs⟩,.agg ⟨ys⟩]) rfl rfl (bs9 p q) h h hz ?_;have c1:ai (vH LG (fun c=>(p.d++q.d)[c]?) (zW w)) (.agg ⟨[cd 0,cd 1,cd 2,cd 3,cd 4,cd 5]⟩) (.agg ⟨xs⟩):=
  aa5 (ds:=p.d) (a:=0) (n:=6) lp (fun i d v h1 h2=>⟨by
   show(p.d++q.d)[0+i]? =some d;rw[Nat.zero_add,xw (xe.1 h1).1];exact h1,hx.2.1 d (xu h1),hx.2.2 i d v h1 h2⟩) hx.1 rfl
 have c2:ai (vH LG (fun c=>(p.d++q.d)[c]?) (zW w)) (.agg ⟨[cd 6,cd 7,cd 8,cd 9,cd 10,cd 11]⟩) (.agg ⟨ys⟩):=
  aa5 (ds:=q.d) (a:=6) (n:=6) lq (fun i d v h1 h2=>⟨by
   show(p.d++q.d)[6+i]? =some d;rw[xq (by rw[lp];omega),lp,Nat.add_sub_cancel_left];exact h1,hy.2.1 d (xu h1),hy.2.2 i d v h1 h2⟩) hy.1 rfl
 exact .cons c1 (.cons c2 (.nil _))
end Go.Proofs.YtnjdjocokegphaaGreatDoor
