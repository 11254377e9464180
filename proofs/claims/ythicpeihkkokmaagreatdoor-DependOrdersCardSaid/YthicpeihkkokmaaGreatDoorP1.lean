/- What these functions answer. -/
import Derived.Test.YthicpeihkkokmaaGreatDoorT0
import Derived.Test.YthicpeihkkokmaaGreatDoorA0
import Derived.Sort.AssemblyPlain
set_option linter.unusedVariables false
set_option linter.unusedSimpArgs false
set_option maxHeartbeats 4000000
set_option maxRecDepth 100000
namespace Go.Proofs.YthicpeihkkokmaaGreatDoor
theorem _root_.Go.Y{α:Sort _}{a:α}:a=a:=rfl
theorem _root_.Go.i_{c:Prop}{h:Decidable c}(k:c){α:Sort _}{t e:α}:(if c then t else e)=t:=if_pos k
theorem _root_.Go.j_{c:Prop}{h:Decidable c}(k:¬c){α:Sort _}{t e:α}:(if c then t else e)=e:=if_neg k
theorem _root_.Go.f_{p:Prop}[Decidable p](h:¬p):decide p=false:=decide_eq_false h
theorem _root_.Go.u_{p:Prop}[Decidable p](h:p):decide p=true:=decide_eq_true h
theorem _root_.Go.c_{α:Type _}{a:α}{l m:List α}:a::l++m=a::(l++m):=rfl
theorem _root_.Go.n_{α:Type _}{l:List α}:[]++l=l:=rfl
open Go.Ex Go.RowKit
open Go.Ex Go.RowKit Go.Sort
theorem _root_.Go.a_{α:Type _}(a b c:List α):a++b++c=a++(b++c):=List.append_assoc a b c
abbrev _root_.Go.b_:=@Wp.jump
abbrev _root_.Go.d_:=@Wp.aD
abbrev _root_.Go.e_:=@Wp.op
abbrev _root_.Go.o_:=@Wp.aQ
variable{c j f a b k n p h' eV:Nat}{X:Bv}{env xs:Di}{Q:Di->Prop}{args:C3}{t:DT}
structure Nd where
 k:Int
 a:Int
 b:Int
variable{m:Nd}
abbrev Kz:=Array Nd
variable{d d4:Kz}
abbrev IU:=List Nd
variable{l:IU}
abbrev Hj:=List (Nd×Nd)
variable{es:Hj}
instance:Inhabited Nd:=⟨⟨0,0,0⟩⟩
abbrev Nd.r(n:Nd):Di:=[.int .u8 n.k,.int .i64 n.a,.int .i64 n.b]
def aY(d:Kz):Ca:=d.toList.map Nd.r
def aA(x y:Nd):Bool:=decide (x.k<y.k\/x.k=y.k/\(x.a<y.a\/x.a=y.a/\x.b<y.b))
abbrev gm(n:Int):D:= .int .i64 n
def pa(a b:Int):Int:=if a<b then -1 else if b<a then 1 else 0
theorem W2(d:Kz):(aY d).length=d.size:=by simp[aY]
theorem W3{i:Nat}(h:i<d.size):(aY d)[i]? =some (d[i]!).r:=by
 unfold aY;rw[xx,Array.getElem?_toList,Array.getElem?_eq_getElem h,getElem!_pos d i h];rfl
theorem FY{i:Nat}(h:i<d.size):aF .iO [.sl (aY d),jD i]=some (.bool true):=by
 show some (D.bool (decide (i<(aY d).length)))=_;rw[W2,u_ h]
theorem Ph{i:Nat}(h:i<d.size):aF (.pD 0 3 true) [.sl (aY d),jD i]=some (.agg (d[i]!).r):=by
 show((aY d)[i]?).bind (fun r=>yd r 0 3 true)=_;rw[W3 h];rfl
theorem Yk{i:Nat}{x:Nd}(h:i<d.size):aF (.kj 0) (.sl (aY d)::jD i::x.r)=some (.sl (aY (d.setIfInBounds i x))):=by
 show((aY d)[i]?).bind (fun r=>if 0+(x.r).length<=r.length then some (D.sl ((aY d).set i (r.take 0++x.r++r.drop (0+(x.r).length)))) else none)=_;rw[W3 h];show some (D.sl ((aY d).set i x.r))=_
 congr 2
 unfold aY;rw[Array.toList_setIfInBounds,List.map_set]
theorem nF(h:j<9223372036854775807):aF (.bin .sub c) [jD (j+1),jD 1]=some (jD j):=eO (a:=j+1) (b:=1) MK MK
section
theorem W.ld{i:Nat}(h1:aH (bR (lk env)) args=some [.sl (aY d),jD i])(hi:i<d.size)(hw:Wp F X f t (env++(d[i]!).r) Q):Wp F X f (.br .iO args (.aQ (.pD 0 3 true) args [no,no,no] t .stop) .stop) env Q:=
 Wp.nz h1 (FY hi) (Wp.aQ h1 (Ph hi) rfl hw)
theorem W.sw{a1 a2 b1 b2:C3}{i:Nat}(h1:aH (bR (lk env)) a1=some [.sl (aY d),jD i])(h2:aH (bR (lk env)) b1=some (.sl (aY d)::jD i::(d[j]!).r))(h3:aH (bR (lk (env++[.sl (aY (d.setIfInBounds i d[j]!))]))) a2=some [.sl (aY d),jD j])
 (h4:aH (bR (lk (env++[.sl (aY (d.setIfInBounds i d[j]!))]))) b2=some (.sl (aY (d.setIfInBounds i d[j]!))::jD j::(d[i]!).r)) (hi:i<d.size) (hj:j<d.size) (hw:Wp F X f t (env++[.sl (aY (d.setIfInBounds i d[j]!)),.sl (aY (swp d i j))]) Q):
 Wp F X f (.br .iO a1 (.op (.kj 0) b1 (.br .iO a2 (.op (.kj 0) b2 t) .stop)) .stop) env Q:=by
 refine Wp.nz h1 (FY hi)<|Wp.op h2 (Yk hi) rfl<|Wp.nz h3 (FY hj)<|Wp.op h4 (Yk (by rw[Array.size_setIfInBounds];exact hj)) rfl ?_;rw[a_];exact hw
theorem aT0{a b:Int}:Rn F X 130 0 [.int .u8 a,.int .u8 b] (·=[gm (pa a b)]):=by
 refine wr Y<|Wp.c8 Y gG NS<|Wp.c8 Y gG NS ?_;unfold pa;refine d_ Y af ?_ ?_<;>intro h
 ·rw[i_ h];exact wt Y Y
 ·rw[j_ h];refine d_ Y bZ ?_ ?_<;>intro h
  ·rw[i_ h];exact wt Y Y
  ·rw[j_ h];exact wt Y Y
theorem XS{a b:Int}:Rn F X 131 0 [gm a,gm b] (·=[gm (pa a b)]):=by
 refine wr Y<|Wp.c8 Y gG NS<|Wp.c8 Y gG NS ?_;unfold pa;refine d_ Y af ?_ ?_<;>intro h
 ·rw[i_ h];exact wt Y Y
 ·rw[j_ h];refine d_ Y bZ ?_ ?_<;>intro h
  ·rw[i_ h];exact wt Y Y
  ·rw[j_ h];exact wt Y Y
def qx(x y:Nd):Int:=if pa x.k y.k≠0 then pa x.k y.k else if pa x.a y.a≠0 then pa x.a y.a else pa x.b y.b
theorem XQ(x y:Nd):decide (qx x y<0)=aA x y:=by
 unfold qx aA;refine decide_eq_decide.2 ?_;have h1:∀a b:Int,(pa a b<0↔a<b)/\(pa a b≠0↔a≠b):=fun a b=>by
  unfold pa;split
  ·omega
  ·split<;>omega
 have:=h1 x.k y.k;have:=h1 x.a y.a;have:=h1 x.b y.b;split
 ·omega
 ·split<;>omega
theorem YO{x y:Nd}:Rn F X 132 0 (x.r++y.r) (·=[gm (qx x y)]):=by
 refine wr Y<|wl Y aT0 rfl<|wl Y XS rfl<|wl Y XS rfl ?_;unfold qx;refine d_ Y gG ?_ ?_<;>intro h
 ·rw[i_ h];exact wt Y Y
 ·rw[j_ h];refine d_ Y gG ?_ ?_<;>intro h
  ·rw[i_ h];exact wt Y Y
  ·rw[j_ h];refine d_ Y gG ?_ ?_<;>intro h
   ·exact wt Y Y
   ·exact wt Y (by rw[show pa x.b y.b=0 by omega])
theorem W.lt{g:Nat}{us:C3}{e:DT}{x y:Nd}{nd:Ex.Node}(h1:aH (aX (lk env)) us=some (x.r++y.r))(h2:aH (bR (lk (env++[gm (qx x y)]))) args=some [gm (qx x y),gm 0])(ht:aA x y=true->Wp F X f t (env++[gm (qx x y)]) Q)(he:aA x y=false->Wp F X f e (env++[gm (qx x y)]) Q):
 Wp F X f (.note nd (.call g 132 us [no] (.br (.bin .lss 0) args t e) .stop)) env Q:=by
 refine wg 1 Y<|Wp.ig h1 YO rfl<|Wp.aD h2 af (fun h=>ht ?_) (fun h=>he ?_)
 ·rw[<-XQ];exact u_ h
 ·rw[<-XQ];exact f_ h
theorem ac4(a b i:Nat)(hi:i<9000000):∀(j:Nat) (d:Kz),j<d.size->d.size<=1000000->Rn F X 166 1 [.sl (aY (insInner aA a j d)),jD a,jD b,jD (i+1)] Q->Rn F X 166 2 [.sl (aY d),jD a,jD b,jD i,jD j] Q
 |0,d,hj,hd,H=>by
  exact wr Y<|wn Y bZ<|wo Y (bg (a:=i) (b:=1) MK)<|wj H
 |j+1,d,hj,hd,H=>by
  refine wr Y ?_;unfold insInner at H;refine d_ Y bZ ?_ ?_<;>intro h
  ·refine W.ld Y hj ?_;refine wo Y (nF (j:=j) MK) ?_;refine W.ld Y (show j<d.size by omega) ?_;have ha:decide (j+1>a)=true:=u_ MK;refine W.lt Y Y (fun h2=> ?_) (fun h2=> ?_)
   ·rw[i_ (by rw[ha,h2];rfl)] at H;refine wo Y (nF (j:=j) MK)<|wo Y (nF (j:=j) MK) ?_;refine W.ld Y (show j<d.size by omega) ?_;refine W.ld Y hj ?_;refine W.sw Y Y Y Y hj (show j<d.size by omega) ?_;exact wo Y (nF (j:=j) MK)<|b_ Y (ac4 a b i hi j _ (by rw[size_swp];omega) (by rw[size_swp];exact hd) H)
   ·rw[j_ (by rw[h2];simp)] at H;exact wo Y (bg (a:=i) (b:=1) MK)<|wj H
  ·rw[j_ Of] at H;exact wo Y (bg (a:=i) (b:=1) MK)<|wj H
end
theorem MN(a:Nat):∀(j:Nat) (d:Kz),(insInner aA a j d).size=d.size
 |0,d=>rfl
 |j+1,d=>by
  unfold insInner;split
  ·rw[MN a j,size_swp]
  ·rfl
section
theorem bv7(a b:Nat):∀(n i:Nat) (d:Kz),b - i<=n->b<=d.size->d.size<=1000000->Rn F X 166 1 [.sl (aY d),jD a,jD b,jD i] (·=[.sl (aY (insOuter aA a b i d))]):=by
 intro n
 induction n with
 |zero=>
  intro i d hn hb hd;refine wr Y ?_;unfold insOuter;rw[j_ MK];exact wn Y af<|wt Y Y
 |succ n ih=>
  intro i d hn hb hd;refine wr Y ?_;unfold insOuter;by_cases h:i<b
  ·rw[i_ h];refine wy Y af<|b_ Y ?_;exact ac4 a b i MK i d MK hd (ih (i+1) _ MK (by rw[MN];exact hb) (by rw[MN];exact hd))
  ·rw[j_ h];exact wn Y af<|wt Y Y
theorem aZ2(hb:b<=d.size)(hd:d.size<=1000000)(ha:a<=1000000):Rn F X 166 0 [.sl (aY d),jD a,jD b] (·=[.sl (aY (insertionSort aA d a b))]):=by
 exact wr Y<|wo Y (bg (a:=a) (b:=1) MK)<|b_ Y (bv7 a b _ (a+1) d (xk _) hb hd)
theorem Ux(hi first:Nat):∀(n root:Nat) (d:Kz),hi - root<=n->(siftDown aA hi first root d).size=d.size:=by
 intro n
 induction n with
 |zero=>
  intro root d hn;unfold siftDown;rw[dif_pos MK]
 |succ n ih=>
  intro root d hn;unfold siftDown;split
  ·rfl
  ·split
   ·split
    ·rfl
    ·split
     ·rw[ih _ _ MK,size_swp]
     ·rfl
   ·split
    ·rfl
    ·rw[ih _ _ MK,size_swp]
theorem bj6(hi first:Nat):∀(n root:Nat) (d:Kz),hi - root<=n->root<=1000000->first+hi<=d.size->d.size<=1000000->Rn F X 167 1 [.sl (aY d),jD hi,jD first,jD root] (·=[.sl (aY (siftDown aA hi first root d))]):=by
 intro n
 induction n with
 |zero=>
  intro root d hn hr hs hd;refine wr Y ?_;unfold siftDown;rw[dif_pos MK];exact wo Y (rT (a:=2) (b:=root) MK)<|wo Y (bg (a:=2*root) (b:=1) MK)<|wy Y eP<|wt Y Y
 |succ n ih=>
  intro root d hn hr hs hd;refine wr Y ?_;unfold siftDown;refine wo Y (rT (a:=2) (b:=root) MK)<|wo Y (bg (a:=2*root) (b:=1) MK) ?_;by_cases h:2*root+1≥hi
  ·rw[dif_pos h];exact wy Y eP<|wt Y Y
  rw[dif_neg h];refine wn Y eP<|wo Y (bg (a:=2*root+1) (b:=1) MK) ?_;by_cases h1:2*root+1+1<hi
  ·refine wy Y af<|wo Y (bg (a:=first) (b:=2*root+1) MK) ?_;refine W.ld Y MK ?_;dsimp only [Nd.r,c_,n_];refine wo Y (bg (a:=first) (b:=2*root+1) MK)<|wo Y (bg (a:=first+(2*root+1)) (b:=1) MK) ?_;refine W.ld Y MK ?_;dsimp only [Nd.r,c_,n_];refine W.lt Y Y (fun h2=> ?_) (fun h2=> ?_)
   ·rw[i_ (by rw[u_ h1,h2];rfl)];refine wo Y (bg (a:=2*root+1) (b:=1) MK)<|wo Y (bg (a:=first) (b:=root) MK) ?_;refine W.ld Y MK ?_;dsimp only [Nd.r,c_,n_];refine wo Y (bg (a:=first) (b:=2*root+1+1) MK) ?_;refine W.ld Y MK ?_;dsimp only [Nd.r,c_,n_];refine W.lt Y Y (fun h3=> ?_) (fun h3=> ?_)
    ·have EF:aA d[first+root]! d[first+(2*root+2)]! =true:=h3;rw[j_ (by rw[EF];simp),dif_pos MK];refine wo Y (bg (a:=first) (b:=root) MK)<|wo Y (bg (a:=first) (b:=2*root+1+1) MK)<|wo Y (bg (a:=first) (b:=2*root+1+1) MK) ?_;refine W.ld Y MK ?_;dsimp only [Nd.r,c_,n_];refine wo Y (bg (a:=first) (b:=root) MK) ?_;refine W.ld Y MK ?_;dsimp only [Nd.r,c_,n_];refine W.sw Y Y Y Y MK MK ?_;dsimp only [Nd.r,c_,n_];exact b_ Y (ih (2*root+2) _ MK MK (by rw[size_swp];exact hs) (by rw[size_swp];exact hd))
    ·have EF:aA d[first+root]! d[first+(2*root+2)]! =false:=h3;rw[i_ (by rw[EF];rfl)];exact wt Y Y
   ·rw[j_ (by rw[h2];simp)];refine wo Y (bg (a:=first) (b:=root) MK) ?_;refine W.ld Y MK ?_;dsimp only [Nd.r,c_,n_];refine wo Y (bg (a:=first) (b:=2*root+1) MK) ?_;refine W.ld Y MK ?_;dsimp only [Nd.r,c_,n_];refine W.lt Y Y (fun h3=> ?_) (fun h3=> ?_)
    ·rw[j_ (by rw[h3];simp)];refine wo Y (bg (a:=first) (b:=root) MK)<|wo Y (bg (a:=first) (b:=2*root+1) MK)<|wo Y (bg (a:=first) (b:=2*root+1) MK) ?_;refine W.ld Y MK ?_;dsimp only [Nd.r,c_,n_];refine wo Y (bg (a:=first) (b:=root) MK) ?_;refine W.ld Y MK ?_;dsimp only [Nd.r,c_,n_];refine W.sw Y Y Y Y MK MK ?_;dsimp only [Nd.r,c_,n_];exact b_ Y (ih (2*root+1) _ MK MK (by rw[size_swp];exact hs) (by rw[size_swp];exact hd))
    ·rw[i_ (by rw[h3];rfl)];exact wt Y Y
  ·refine wn Y af ?_;rw[j_ (by rw[f_ h1];simp)];refine wo Y (bg (a:=first) (b:=root) MK) ?_;refine W.ld Y MK ?_;dsimp only [Nd.r,c_,n_];refine wo Y (bg (a:=first) (b:=2*root+1) MK) ?_;refine W.ld Y MK ?_;dsimp only [Nd.r,c_,n_];refine W.lt Y Y (fun h3=> ?_) (fun h3=> ?_)
   ·rw[j_ (by rw[h3];simp)];refine wo Y (bg (a:=first) (b:=root) MK)<|wo Y (bg (a:=first) (b:=2*root+1) MK)<|wo Y (bg (a:=first) (b:=2*root+1) MK) ?_;refine W.ld Y MK ?_;dsimp only [Nd.r,c_,n_];refine wo Y (bg (a:=first) (b:=root) MK) ?_;refine W.ld Y MK ?_;dsimp only [Nd.r,c_,n_];refine W.sw Y Y Y Y MK MK ?_;dsimp only [Nd.r,c_,n_];exact b_ Y (ih (2*root+1) _ MK MK (by rw[size_swp];exact hs) (by rw[size_swp];exact hd))
   ·rw[i_ (by rw[h3];rfl)];exact wt Y Y
theorem WV{hi first root:Nat}(hr:root<=1000000)(hs:first+hi<=d.size)(hd:d.size<=1000000):Rn F X 167 0 [.sl (aY d),jD root,jD hi,jD first] (·=[.sl (aY (siftDown aA hi first root d))]):=by
 exact wr Y<|b_ Y (bj6 hi first _ root d (xk _) hr hs hd)
def iK:Nat->D|0=>gm (-1)|k+1=>jD k
theorem yy(k:Nat):(iK k).cell=true:=by cases k<;>rfl
theorem Oy(h:k<1000000000):aF (.bin .sub c) [jD k,jD 1]=some (iK k):=by
 cases k with
 |zero=>rfl
 |succ k=>exact nF MK
theorem Zz(a:Nat):∀(k:Nat) (d:Kz),a+k<=d.size->d.size<=1000000->Rn F X 168 2 [.sl (aY d),jD a,iK k] (·=[.sl (aY (heapPop aA a k d))])
 |0,d,hs,hd=>by
  exact wr Y<|wn Y (eP (a:= -1) (b:=0))<|wt Y Y
 |k+1,d,hs,hd=>by
  refine wr Y<|wy Y (eP (a:=(k:Nat)) (b:=0))<|wo Y (bg (a:=a) (b:=k) MK)<|wo Y (bg (a:=a) (b:=k) MK) ?_;refine W.ld Y MK ?_;dsimp only [Nd.r,c_,n_];refine W.ld Y MK ?_;dsimp only [Nd.r,c_,n_];refine W.sw Y Y Y Y MK MK ?_;dsimp only [Nd.r,c_,n_];refine wl Y (WV (hi:=k) (first:=a) (root:=0) (d:=swp d a (a+k)) MK (by rw[size_swp];omega) (by rw[size_swp];exact hd)) rfl<|e_ Y (Oy (k:=k) MK) (yy _) ?_;have aV:(siftDown aA k a 0 (swp d a (a+k))).size=d.size:=by rw[Ux k a k 0 _ MK,size_swp]
  refine Wp.jump ?_ (Zz a k _ (by rw[aV];omega) (by rw[aV];exact hd));cases k<;>rfl
theorem ZA(a hi:Nat):∀(k:Nat) (d:Kz),k<=hi+1->a+hi<=d.size->d.size<=1000000->Rn F X 168 1 [.sl (aY d),jD a,jD hi,iK k] (·=[.sl (aY (heapPop aA a hi (heapBuild aA hi a k d)))])
 |0,d,hk,hs,hd=>by
  refine wr Y<|wn Y (eP (a:= -1) (b:=0))<|e_ Y (Oy (k:=hi) MK) (yy _)<|Wp.jump ?_ (Zz a hi d hs hd);cases hi<;>rfl
 |k+1,d,hk,hs,hd=>by
  refine wr Y<|wy Y (eP (a:=(k:Nat)) (b:=0))<|wl Y (WV (hi:=hi) (first:=a) (root:=k) (d:=d) MK hs hd) rfl<|e_ Y (Oy (k:=k) MK) (yy _) ?_;have aV:(siftDown aA hi a k d).size=d.size:=Ux hi a _ k _ (xk _);refine Wp.jump ?_ (ZA a hi k _ MK (by rw[aV];exact hs) (by rw[aV];exact hd));cases k<;>rfl
theorem aQ9(iw:a<b)(hb:b<=d.size)(hd:d.size<=1000000):Rn F X 168 0 [.sl (aY d),jD a,jD b] (·=[.sl (aY (heapSort aA d a b))]):=by
 exact wr Y<|wo Y (eO (a:=b) (b:=a) MK MK)<|wo Y (eO (a:=b - a) (b:=1) MK MK)<|wo Y (vj (a:=b - a - 1) (b:=2) MK MK)<|b_ Y (ZA a (b - a) ((b - a - 1)/2+1) d MK MK hd)
theorem tV:∀(n i j:Nat) (d:Kz),j - i<=n->j<d.size->d.size<=1000000->i<=1000000->Rn F X 169 1 [.sl (aY d),jD i,jD j] (·=[.sl (aY (reverseLoop i j d))]):=by
 intro n
 induction n with
 |zero=>
  intro i j d hn hj hd hi;refine wr Y ?_;unfold reverseLoop;rw[j_ MK];exact wn Y af<|wt Y Y
 |succ n ih=>
  intro i j d hn hj hd hi;refine wr Y ?_;unfold reverseLoop;by_cases h:i<j
  ·rw[i_ h];refine wy Y af ?_;refine W.ld Y hj ?_;dsimp only [Nd.r,c_,n_];refine W.ld Y MK ?_;dsimp only [Nd.r,c_,n_];refine W.sw Y Y Y Y MK hj ?_;dsimp only [Nd.r,c_,n_];exact wo Y (bg (a:=i) (b:=1) MK)<|wo Y (eO (a:=j) (b:=1) MK MK)<|b_ Y (ih (i+1) (j - 1) _ MK (by rw[size_swp];omega) (by rw[size_swp];exact hd) MK)
  ·rw[j_ h];exact wn Y af<|wt Y Y
theorem Yf(iw:a<b)(hb:b<=d.size)(hd:d.size<=1000000):Rn F X 169 0 [.sl (aY d),jD a,jD b] (·=[.sl (aY (reverseRange d a b))]):=by
 exact wr Y<|wo Y (eO (a:=b) (b:=1) MK MK)<|b_ Y (tV _ a (b - 1) d (xk _) MK hd MK)
end
section
theorem E'{s:Nat}(ha:a<n)(hb:b<n):(order2 aA d a b s).1<n/\(order2 aA d a b s).2.1<n/\(order2 aA d a b s).2.2<=s+1:=by
 unfold order2;split
 ·exact⟨hb,ha,xk _⟩
 ·exact⟨ha,hb,Nat.le_succ _⟩
theorem Np{s:Nat}(ha:a<d.size)(hb:b<d.size)(hs:s<=1000):Rn F X 171 0 [.sl (aY d),jD a,jD b,jD s] (·=[jD (order2 aA d a b s).1,jD (order2 aA d a b s).2.1,.sl (aY d),jD (order2 aA d a b s).2.2]):=by
 refine wr Y ?_;refine W.ld Y hb ?_;refine W.ld Y ha ?_;dsimp only [Nd.r,c_,n_];unfold order2;refine W.lt Y Y ?_ ?_<;>intro h
 ·rw[i_ h];exact wo Y (bg (a:=s) (b:=1) MK)<|wt Y Y
 ·rw[j_ (by rw[h];simp)];exact wt Y Y
theorem Nu{s:Nat}(ha:a<n)(hb:b<n)(hc:c<n):(median aA d a b c s).1<n/\(median aA d a b c s).2<=s+3:=by
 unfold median;obtain⟨a1,a2,a3⟩:=E' (d:=d) (s:=s) ha hb;obtain⟨b1,b2,b3⟩:=E' (d:=d) (s:=(order2 aA d a b s).2.2) a2 hc;obtain⟨c1,c2,c3⟩:=E' (d:=d) (s:=(order2 aA d (order2 aA d a b s).2.1 c (order2 aA d a b s).2.2).2.2) a1 b1;exact⟨c2,by show(order2 aA d _ _ _).2.2<=_;omega⟩
theorem Nt{s:Nat}(ha:a<d.size)(hb:b<d.size)(hc:c<d.size)(hs:s<=900):Rn F X 172 0 [.sl (aY d),jD a,jD b,jD c,jD s] (·=[jD (median aA d a b c s).1,.sl (aY d),jD (median aA d a b c s).2]):=by
 obtain⟨a1,a2,a3⟩:=E' (d:=d) (s:=s) ha hb;obtain⟨b1,b2,b3⟩:=E' (d:=d) (s:=(order2 aA d a b s).2.2) a2 hc;exact wr Y<|wl Y (Np ha hb MK) rfl<|wl Y (Np a2 hc MK) rfl<|wl Y (Np a1 b1 MK) rfl<|wt Y Y
theorem Nv{s:Nat}(ha:1<=a)(hb:a+1<d.size)(hd:d.size<=1000000)(hs:s<=900):Rn F X 173 0 [.sl (aY d),jD a,jD s] (·=[jD (medianAdjacent aA d a s).1,.sl (aY d),jD (medianAdjacent aA d a s).2]):=by
 exact wr Y<|wo Y (eO (a:=a) (b:=1) MK MK)<|wo Y (bg (a:=a) (b:=1) MK)<|wl Y (Nt (d:=d) (a:=a - 1) (b:=a) (c:=a+1) MK MK hb hs) rfl<|wt Y Y
def Gs:Hint->Int| .unknown=>0| .increasing=>1| .decreasing=>2
theorem Vg{r:Nat×Nat}{cr cs cv:xM}{lg k9 ρ3:Es}{s1 s2 s3:C3}(h1:aH (bR (lk env)) [cr]=some [jD r.2])(h2:∀k:Int,aH (aX (lk env)) [cv,.int .i64 k,cs]=some [jD r.1,gm k,.sl (aY d)]):
 Wp F X f (.br (.bin .eql 0) [cr,.int .i64 0] (.ret lg s1 [cv,.int .i64 1,cs]) (.br (.bin .eql 0) [cr,.int .i64 12] (.ret k9 s2 [cv,.int .i64 2,cs]) (.ret ρ3 s3 [cv,.int .i64 0,cs]))) env (·=[jD r.1,gm (Gs (if r.2=0 then .increasing else if r.2=12 then .decreasing else .unknown)),.sl (aY d)]):=by
 have h3:∀k:Int,aH (bR (lk env)) [cr,.int .i64 k]=some [jD r.2,gm k]:=fun k=>by
  obtain⟨e,h⟩:=kU h1;cases h.1;unfold aH;rw[h.2];rfl
 refine d_ (h3 0) ay ?_ ?_<;>intro h
 ·rw[i_ MK];exact Wp.ret (h2 1) rfl
 ·rw[j_ MK];refine d_ (h3 12) ay ?_ ?_<;>intro h
  ·rw[i_ MK];exact Wp.ret (h2 2) rfl
  ·rw[j_ MK];exact Wp.ret (h2 0) rfl
theorem V5(iw:a<b)(hb:b<=d.size)(hd:d.size<=1000000):Rn F X 174 0 [.sl (aY d),jD a,jD b] (·=[jD (choosePivot aA d a b).1,gm (Gs (choosePivot aA d a b).2),.sl (aY d)]):=by
 refine wr Y ?_;have hl:(b - a)/4*3<=b - a:=MK
 refine wo Y (eO (a:=b) (b:=a) MK MK)<|wo Y (vj (a:=b - a) (b:=4) MK MK)<|wo Y (rT (a:=(b - a)/4) (b:=1) MK)<|wo Y (bg (a:=a) (b:=(b - a)/4*1) MK)<|wo Y (vj (a:=b - a) (b:=4) MK MK)<|wo Y (rT (a:=(b - a)/4) (b:=2) MK)<|wo Y (bg (a:=a) (b:=(b - a)/4*2) MK)<|wo Y (vj (a:=b - a) (b:=4) MK MK)<|wo Y (rT (a:=(b - a)/4) (b:=3) MK)<|wo Y (bg (a:=a) (b:=(b - a)/4*3) MK) ?_;dsimp only [c_,n_];unfold choosePivot;dsimp only;by_cases h8:b - a≥8
 ·refine wy Y eP ?_;rw[i_ h8];by_cases Ib:b - a≥50
  ·refine wy Y eP ?_;rw[i_ Ib];have e1:=Nu (d:=d) (a:=a+(b - a)/4*1 - 1) (b:=a+(b - a)/4*1) (c:=a+(b - a)/4*1+1) (s:=0) (n:=d.size) MK MK MK;have e2:=Nu (d:=d) (a:=a+(b - a)/4*2 - 1) (b:=a+(b - a)/4*2) (c:=a+(b - a)/4*2+1) (s:=(medianAdjacent aA d (a+(b - a)/4*1) 0).2) (n:=d.size) MK MK MK;have e3:=Nu (d:=d) (a:=a+(b - a)/4*3 - 1) (b:=a+(b - a)/4*3) (c:=a+(b - a)/4*3+1) (s:=(medianAdjacent aA d (a+(b - a)/4*2) (medianAdjacent aA d (a+(b - a)/4*1) 0).2).2) (n:=d.size) MK MK MK;have g1:(medianAdjacent aA d (a+(b - a)/4*1) 0).1<d.size/\(medianAdjacent aA d (a+(b - a)/4*1) 0).2<=0+3:=e1;have g2:(medianAdjacent aA d (a+(b - a)/4*2) (medianAdjacent aA d (a+(b - a)/4*1) 0).2).1<d.size/\(medianAdjacent aA d (a+(b - a)/4*2) (medianAdjacent aA d (a+(b - a)/4*1) 0).2).2<=(medianAdjacent aA d (a+(b - a)/4*1) 0).2+3:=e2;have g3:(medianAdjacent aA d (a+(b - a)/4*3) (medianAdjacent aA d (a+(b - a)/4*2) (medianAdjacent aA d (a+(b - a)/4*1) 0).2).2).1<d.size/\(medianAdjacent aA d (a+(b - a)/4*3) (medianAdjacent aA d (a+(b - a)/4*2) (medianAdjacent aA d (a+(b - a)/4*1) 0).2).2).2<=(medianAdjacent aA d (a+(b - a)/4*2) (medianAdjacent aA d (a+(b - a)/4*1) 0).2).2+3:=e3;refine wl Y (Nv (d:=d) (a:=a+(b - a)/4*1) (s:=0) MK MK hd MK) rfl<|wl Y (Nv (d:=d) (a:=a+(b - a)/4*2) (s:=(medianAdjacent aA d (a+(b - a)/4*1) 0).2) MK MK hd MK) rfl<|wl Y (Nv (d:=d) (a:=a+(b - a)/4*3) (s:=(medianAdjacent aA d (a+(b - a)/4*2) (medianAdjacent aA d (a+(b - a)/4*1) 0).2).2) MK MK hd MK) rfl<|wl Y (Nt (d:=d) g1.1 g2.1 g3.1 MK) rfl ?_;dsimp only [c_,n_];exact Vg rfl (fun k=>rfl)
  ·refine wn Y eP ?_;rw[j_ Ib];refine wl Y (Nt (d:=d) (a:=a+(b - a)/4*1) (b:=a+(b - a)/4*2) (c:=a+(b - a)/4*3) (s:=0) MK MK MK MK) rfl ?_;dsimp only [c_,n_];exact Vg rfl (fun k=>rfl)
 ·refine wn Y eP ?_;rw[j_ h8];exact wt Y Y
theorem Ut:∀(j:Nat) (d:Kz),(shiftDown aA j d).size=d.size
 |0,d=>rfl
 |j+1,d=>by
  unfold shiftDown;split
  ·rfl
  ·rw[Ut j,size_swp]
theorem Ir(b:Nat):∀(n j:Nat) (d:Kz),b - j<=n->(shiftUp aA b j d).size=d.size:=by
 intro n
 induction n with
 |zero=>
  intro j d hn;unfold shiftUp;rw[j_ MK]
 |succ n ih=>
  intro j d hn;unfold shiftUp;split
  ·split
   ·rfl
   ·rw[ih _ _ MK,size_swp]
  ·rfl
theorem O9{i t:Nat}(ht:t<100):∀(n j:Nat) (d:Kz),b - j<=n->1<=j->j<=1000000->b<=d.size->d.size<=1000000->Rn F X 175 1 [.sl (aY (shiftUp aA b j d)),jD a,jD b,jD i,jD (t+1)] Q->Rn F X 175 4 [.sl (aY d),jD a,jD b,jD i,jD t,jD j] Q:=by
 intro n
 induction n with
 |zero=>
  intro j d hn hj ju hb hd H;refine wr Y ?_;unfold shiftUp at H;rw[j_ MK] at H;exact wn Y af<|wo Y (bg (a:=t) (b:=1) MK)<|wj H
 |succ n ih=>
  intro j d hn hj ju hb hd H;refine wr Y ?_;unfold shiftUp at H;by_cases h:j<b
  ·rw[i_ h] at H;refine wy Y af ?_;refine W.ld Y MK ?_;refine wo Y (eO (a:=j) (b:=1) MK MK) ?_;refine W.ld Y MK ?_;dsimp only [Nd.r,c_,n_];refine W.lt Y Y (fun h2=> ?_) (fun h2=> ?_)
   ·rw[j_ (by rw[h2];simp)] at H;refine wo Y (eO (a:=j) (b:=1) MK MK)<|wo Y (eO (a:=j) (b:=1) MK MK) ?_;refine W.ld Y MK ?_;refine W.ld Y MK ?_;dsimp only [Nd.r,c_,n_];refine W.sw Y Y Y Y MK MK ?_;exact wo Y (bg (a:=j) (b:=1) MK)<|b_ Y (ih (j+1) _ MK MK MK (by rw[size_swp];exact hb) (by rw[size_swp];exact hd) H)
   ·rw[i_ (by rw[h2];rfl)] at H;exact wo Y (bg (a:=t) (b:=1) MK)<|wj H
  ·rw[j_ h] at H;exact wn Y af<|wo Y (bg (a:=t) (b:=1) MK)<|wj H
theorem aV7{i t:Nat}(ht:t<100)(hi:1<=i)(BF:i<=b)(H5:b<=1000000):∀(j:Nat) (d:Kz),j<d.size->b<=d.size->d.size<=1000000->Rn F X 175 1 [.sl (aY (if b - i≥2 then shiftUp aA b (i+1) (shiftDown aA j d) else shiftDown aA j d)),jD a,jD b,jD i,jD (t+1)] Q->Rn F X 175 3 [.sl (aY d),jD a,jD b,jD i,jD t,jD j] Q:=by
 intro j
 induction j with
 |zero=>
  intro d hj hb hd H;refine wr Y ?_;rw[shiftDown] at H;refine wn Y eP<|wo Y (eO (a:=b) (b:=i) MK MK) ?_;by_cases h:b - i≥2
  ·rw[i_ h] at H;exact wy Y eP<|wo Y (bg (a:=i) (b:=1) MK)<|b_ Y (O9 ht _ (i+1) d (xk _) MK MK hb hd H)
  ·rw[j_ h] at H;exact wn Y eP<|wo Y (bg (a:=t) (b:=1) MK)<|wj H
 |succ j ih=>
  intro d hj hb hd H;refine wr Y<|wy Y eP ?_;refine W.ld Y hj ?_;refine wo Y (nF (j:=j) MK) ?_;refine W.ld Y MK ?_;dsimp only [Nd.r,c_,n_];refine W.lt Y Y (fun h2=> ?_) (fun h2=> ?_)
  ·have e:shiftDown aA (j+1) d=shiftDown aA j (swp d (j+1) j):=by
    rw[shiftDown,j_ (by rw[h2];simp)]
   rw[e] at H;refine wo Y (nF (j:=j) MK)<|wo Y (nF (j:=j) MK) ?_;refine W.ld Y MK ?_;refine W.ld Y hj ?_;dsimp only [Nd.r,c_,n_];refine W.sw Y Y Y Y hj MK ?_;exact wo Y (nF (j:=j) MK)<|b_ Y (ih _ (by rw[size_swp];omega) (by rw[size_swp];exact hb) (by rw[size_swp];exact hd) H)
  ·have e:shiftDown aA (j+1) d=d:=by
    rw[shiftDown,i_ (by rw[h2];rfl)]
   rw[e] at H;refine wo Y (eO (a:=b) (b:=i) MK MK) ?_;by_cases h:b - i≥2
   ·rw[i_ h] at H;exact wy Y eP<|wo Y (bg (a:=i) (b:=1) MK)<|b_ Y (O9 ht _ (i+1) d (xk _) MK MK hb hd H)
   ·rw[j_ h] at H;exact wn Y eP<|wo Y (bg (a:=t) (b:=1) MK)<|wj H
end
theorem P6(p:Nd->Bool)(d:Kz)(j i:Nat)(h:i<=j)(hp:p d[i]! =true):scanUp p d j i=scanUp p d j (i+1):=by
 rw[scanUp,i_ (by simp[h,hp])]
theorem rS(p:Nd->Bool)(d:Kz)(j i:Nat)(h: ¬i<=j\/p d[i]! =false):scanUp p d j i=i:=by
 rw[scanUp,j_ (by rcases h with h|h<;>simp[h])]
theorem P7(p:Nd->Bool)(d:Kz)(i j:Nat)(h:i<=j+1)(hp:p d[j+1]! =true):scanDown p d i (j+1)=scanDown p d i j:=by
 rw[scanDown,i_ (by simp[h,hp])]
theorem vd(p:Nd->Bool)(d:Kz)(i j:Nat)(h: ¬i<=j\/p d[j]! =false):scanDown p d i j=j:=by
 cases j with
 |zero=>rfl
 |succ k=>rw[scanDown,j_ (by rcases h with h|h<;>simp[h])]
section
abbrev LY(r:Kz×Bool):Di:=[.bool r.2,.sl (aY r.1)]
theorem bk0{s t:Nat}(hts:t+(s+1)=5)(H5:b<=1000000)
 (P:∀(i:Nat) (d:Kz),a+1<=i->i<=b->b<=d.size->d.size<=1000000->Rn F X 175 1 [.sl (aY d),jD a,jD b,jD i,jD (t+1)] (·=LY (partialIns aA a b s i d))):∀(n i:Nat) (d:Kz),b - i<=n->a+1<=i->i<=b->b<=d.size->d.size<=1000000->Rn F X 175 2 [.sl (aY d),jD a,jD b,jD i,jD t] (·=LY (partialIns aA a b (s+1) i d)):=by
 intro n
 induction n with
 |zero=>
  intro i d hn H6 BF hb hd;refine wr Y ?_;have hs:scanSorted aA d b i=i:=by rw[scanSorted,j_ Of]
  refine wn Y af<|wy Y ay ?_;unfold partialIns;rw[hs,i_ MK];exact wt Y Y
 |succ n ih=>
  intro i d hn H6 BF hb hd;refine wr Y ?_;by_cases h:i<b
  ·refine wy Y af ?_;refine W.ld Y MK ?_;refine wo Y (eO (a:=i) (b:=1) MK MK) ?_;refine W.ld Y MK ?_;dsimp only [Nd.r,c_,n_];refine W.lt Y Y (fun h2=> ?_) (fun h2=> ?_)
   ·have hs:scanSorted aA d b i=i:=by rw[scanSorted,j_ (by rw[h2];simp)]
    refine wn Y ay<|wo Y (eO (a:=b) (b:=a) MK MK) ?_;unfold partialIns;rw[hs,j_ MK];by_cases Ib:b - a<50
    ·rw[i_ Ib];exact wy Y af<|wt Y Y
    rw[j_ Ib];refine wn Y af<|wo Y (eO (a:=i) (b:=1) MK MK)<|wo Y (eO (a:=i) (b:=1) MK MK) ?_;refine W.ld Y MK ?_;refine W.ld Y MK ?_;dsimp only [Nd.r,c_,n_];refine W.sw Y Y Y Y MK MK ?_;dsimp only [c_,n_];refine wo Y (eO (a:=i) (b:=a) MK MK) ?_;have aV:(swp d i (i - 1)).size=d.size:=size_swp _ _ _;by_cases BM:i - a≥2
    ·rw[i_ BM];refine wy Y eP<|wo Y (eO (a:=i) (b:=1) MK MK)<|b_ Y (aV7 MK MK BF H5 (i - 1) _ (by rw[aV];omega) (by rw[aV];exact hb) (by rw[aV];exact hd) ?_);have yK:(shiftDown aA (i - 1) (swp d i (i - 1))).size=d.size:=by rw[Ut,aV]
     by_cases bP:b - i≥2
     ·rw[i_ bP];exact P i _ H6 BF (by rw[Ir b _ (i+1) _ (xk _),yK];exact hb) (by rw[Ir b _ (i+1) _ (xk _),yK];exact hd)
     ·rw[j_ bP];exact P i _ H6 BF (by rw[yK];exact hb) (by rw[yK];exact hd)
    ·rw[j_ BM];refine wn Y eP<|wo Y (eO (a:=b) (b:=i) MK MK) ?_;by_cases bP:b - i≥2
     ·rw[i_ bP];refine wy Y eP<|wo Y (bg (a:=i) (b:=1) MK)<|b_ Y (O9 MK _ (i+1) _ (xk _) MK MK (by rw[aV];exact hb) (by rw[aV];exact hd) ?_);exact P i _ H6 BF (by rw[Ir b _ (i+1) _ (xk _),aV];exact hb) (by rw[Ir b _ (i+1) _ (xk _),aV];exact hd)
     ·rw[j_ bP];exact wn Y eP<|wo Y (bg (a:=t) (b:=1) MK)<|b_ Y (P i _ H6 BF (by rw[aV];exact hb) (by rw[aV];exact hd))
   ·have hs:scanSorted aA d b i=scanSorted aA d b (i+1):=by rw[scanSorted,i_ (by rw[h2];simp[h])]
    refine wo Y (bg (a:=i) (b:=1) MK) ?_;have:=ih (i+1) d MK MK MK hb hd;unfold partialIns at this⊢;rw[hs];exact b_ Y this
  ·have hs:scanSorted aA d b i=i:=by rw[scanSorted,j_ Of]
   refine wn Y af<|wy Y ay ?_;unfold partialIns;rw[hs,i_ MK];exact wt Y Y
theorem Y'(H5:b<=1000000):∀(s t:Nat),t+s=5->∀(i:Nat) (d:Kz),a+1<=i->i<=b->b<=d.size->d.size<=1000000->Rn F X 175 1 [.sl (aY d),jD a,jD b,jD i,jD t] (·=LY (partialIns aA a b s i d))
 |0,t,ht,i,d,h1,h2,hb,hd=>by
  exact wr Y<|wn Y af<|wt Y Y
 |s+1,t,ht,i,d,h1,h2,hb,hd=>by
  exact wr Y<|wy Y af<|b_ Y (bk0 ht H5 (fun i d h1 h2 hb hd=>Y' H5 s (t+1) MK i d h1 h2 hb hd) _ i d (xk _) h1 h2 hb hd)
theorem aN9(iw:a<b)(hb:b<=d.size)(hd:d.size<=1000000):Rn F X 175 0 [.sl (aY d),jD a,jD b] (·=LY (partialInsertionSort aA d a b)):=by
 exact wr Y<|wo Y (bg (a:=a) (b:=1) MK)<|b_ Y (Y' MK 5 0 rfl (a+1) d (xk _) MK hb hd)
theorem mA(ha:a<d.size)(hj:j<d.size)(hd:d.size<=1000000):∀(n i:Nat),j+1 - i<=n->i<=9000000->Rn F X 176 3 [.sl (aY d),jD a,jD (scanUp (fun x=> !aA d[a]! x) d j i),jD j] Q->Rn F X 176 2 [.sl (aY d),jD a,jD i,jD j] Q:=by
 intro n
 induction n with
 |zero=>
  intro i hn hi H;refine wr Y ?_;rw[rS _ _ _ _ (.inl MK)] at H;exact wn Y ke<|wj H
 |succ n ih=>
  intro i hn hi H;refine wr Y ?_;by_cases h:i<=j
  ·refine wy Y ke ?_;refine W.ld Y ha ?_;refine W.ld Y MK ?_;dsimp only [Nd.r,c_,n_];refine W.lt Y Y (fun h2=> ?_) (fun h2=> ?_)
   ·rw[rS _ _ _ _ (.inr (by rw[h2];rfl))] at H;exact b_ Y H
   ·rw[P6 _ _ _ _ h (by rw[h2];rfl)] at H;exact wo Y (bg (a:=i) (b:=1) MK)<|b_ Y (ih (i+1) MK MK H)
  ·rw[rS _ _ _ _ (.inl h)] at H;exact wn Y ke<|wj H
theorem lu{i:Nat}(ha:a<d.size)(hi:1<=i)(hd:d.size<=1000000):∀(j:Nat),j<d.size->(i>scanDown (fun x=>aA d[a]! x) d i j->Q [jD i,.sl (aY d)])->(¬i>scanDown (fun x=>aA d[a]! x) d i j->Rn F X 176 1 [.sl (aY (swp d i (scanDown (fun x=>aA d[a]! x) d i j))),jD a,jD (i+1),jD (scanDown (fun x=>aA d[a]! x) d i j - 1)] Q)->Rn F X 176 3 [.sl (aY d),jD a,jD i,jD j] Q:=by
 intro j
 induction j with
 |zero=>
  intro hj H1 H2;exact wr Y<|wn Y (ke (a:=(i:Nat)) (b:=0))<|wy Y (bZ (a:=(i:Nat)) (b:=0))<|wt Y (H1 (by rw[vd _ _ _ _ (.inl MK)];omega))
 |succ j ih=>
  intro hj H1 H2;refine wr Y ?_;by_cases h:i<=j+1
  ·refine wy Y ke ?_;refine W.ld Y ha ?_;refine W.ld Y hj ?_;dsimp only [Nd.r,c_,n_];refine W.lt Y Y (fun h2=> ?_) (fun h2=> ?_)
   ·rw[P7 _ _ _ _ h h2] at H1 H2;exact wo Y (nF (j:=j) MK)<|b_ Y (ih MK H1 H2)
   ·rw[vd _ _ _ _ (.inr h2)] at H1 H2;refine wn Y bZ ?_;refine W.ld Y hj ?_;refine W.ld Y MK ?_;dsimp only [Nd.r,c_,n_];refine W.sw Y Y Y Y MK hj ?_;exact wo Y (bg (a:=i) (b:=1) MK)<|wo Y (nF (j:=j) MK)<|b_ Y (H2 MK)
  ·rw[vd _ _ _ _ (.inl h)] at H1 H2;exact wn Y ke<|wy Y bZ<|wt Y (H1 MK)
theorem pe1:∀(n i j:Nat) (d:Kz),j+1 - i<=n->a<d.size->j<d.size->1<=i->i<=j+2->d.size<=1000000->Rn F X 176 1 [.sl (aY d),jD a,jD i,jD j] (·=[jD (partEqLoop aA a i j d).1,.sl (aY (partEqLoop aA a i j d).2)]):=by
 intro n
 induction n with
 |zero=>
  intro i j d hn ha hj hi BE hd;refine wr Y<|b_ Y ?_;rw[partEqLoop_eq];have hu:scanUp (fun x=> !aA d[a]! x) d j i=i:=rS _ _ _ _ (.inl MK);have ly:=scanDown_le (fun x=>aA d[a]! x) d i j;rw[hu];refine mA ha hj hd _ i (xk _) MK ?_;rw[hu];refine lu ha hi hd j hj (fun h=> ?_) (fun h=>absurd h MK);rw[i_ h]
 |succ n ih=>
  intro i j d hn ha hj hi BE hd;refine wr Y<|b_ Y ?_;rw[partEqLoop_eq];obtain⟨u1,u2,_⟩:=scanUp_spec (fun x=> !aA d[a]! x) d j _ i rfl;refine mA ha hj hd _ i (xk _) MK ?_;generalize scanUp (fun x=> !aA d[a]! x) d j i=i2 at u1 u2⊢;have ly:=scanDown_le (fun x=>aA d[a]! x) d i2 j;refine lu ha MK hd j hj ?_ ?_<;>intro h
  ·rw[i_ h]
  ·rw[j_ h];have h':i2<=scanDown (fun x=>aA d[a]! x) d i2 j:=Nat.le_of_not_lt h;generalize scanDown (fun x=>aA d[a]! x) d i2 j=j2 at h' ly⊢;exact ih _ _ _ MK (by rw[size_swp];exact ha) (by rw[size_swp];omega) MK MK (by rw[size_swp];exact hd)
theorem bk1(hap:a<=p)(hpb:p<b)(hb:b<=d.size)(hd:d.size<=1000000):Rn F X 176 0 [.sl (aY d),jD a,jD b,jD p] (·=[jD (partitionEqual aA d a b p).1,.sl (aY (partitionEqual aA d a b p).2)]):=by
 refine wr Y ?_;refine W.ld Y MK ?_;refine W.ld Y MK ?_;dsimp only [Nd.r,c_,n_];refine W.sw Y Y Y Y MK MK ?_;exact wo Y (bg (a:=a) (b:=1) MK)<|wo Y (eO (a:=b) (b:=1) MK MK)<|b_ Y (pe1 _ (a+1) (b - 1) _ (xk _) (by rw[size_swp];omega) (by rw[size_swp];omega) MK MK (by rw[size_swp];exact hd))
theorem pt1(ha:a<d.size)(hj:j<d.size)(hd:d.size<=1000000):∀(n i:Nat),j+1 - i<=n->i<=9000000->Rn F X 177 2 [.sl (aY d),jD a,jD (scanUp (fun x=>aA x d[a]!) d j i),jD j] Q->Rn F X 177 1 [.sl (aY d),jD a,jD i,jD j] Q:=by
 intro n
 induction n with
 |zero=>
  intro i hn hi H;refine wr Y ?_;rw[rS (fun x=>aA x d[a]!) _ _ _ (.inl MK)] at H;exact wn Y ke<|wj H
 |succ n ih=>
  intro i hn hi H;refine wr Y ?_;by_cases h:i<=j
  ·refine wy Y ke ?_;refine W.ld Y MK ?_;refine W.ld Y ha ?_;dsimp only [Nd.r,c_,n_];refine W.lt Y Y (fun h2=> ?_) (fun h2=> ?_)
   ·rw[P6 (fun x=>aA x d[a]!) _ _ _ h h2] at H;exact wo Y (bg (a:=i) (b:=1) MK)<|b_ Y (ih (i+1) MK MK H)
   ·rw[rS (fun x=>aA x d[a]!) _ _ _ (.inr h2)] at H;exact b_ Y H
  ·rw[rS (fun x=>aA x d[a]!) _ _ _ (.inl h)] at H;exact wn Y ke<|wj H
theorem su(ha:a<d.size)(hj:j<d.size)(hd:d.size<=1000000):∀(n i:Nat),j+1 - i<=n->i<=9000000->Rn F X 177 5 [.sl (aY d),jD a,jD (scanUp (fun x=>aA x d[a]!) d j i),jD j] Q->Rn F X 177 4 [.sl (aY d),jD a,jD i,jD j] Q:=by
 intro n
 induction n with
 |zero=>
  intro i hn hi H;refine wr Y ?_;rw[rS (fun x=>aA x d[a]!) _ _ _ (.inl MK)] at H;exact wn Y ke<|wj H
 |succ n ih=>
  intro i hn hi H;refine wr Y ?_;by_cases h:i<=j
  ·refine wy Y ke ?_;refine W.ld Y MK ?_;refine W.ld Y ha ?_;dsimp only [Nd.r,c_,n_];refine W.lt Y Y (fun h2=> ?_) (fun h2=> ?_)
   ·rw[P6 (fun x=>aA x d[a]!) _ _ _ h h2] at H;exact wo Y (bg (a:=i) (b:=1) MK)<|b_ Y (ih (i+1) MK MK H)
   ·rw[rS (fun x=>aA x d[a]!) _ _ _ (.inr h2)] at H;exact b_ Y H
  ·rw[rS (fun x=>aA x d[a]!) _ _ _ (.inl h)] at H;exact wn Y ke<|wj H
theorem pt2{i:Nat}(ha:a<d.size)(hi:1<=i)(hd:d.size<=1000000):∀(j:Nat),j<d.size->(i>scanDown (fun x=> !aA x d[a]!) d i j->Q [jD (scanDown (fun x=> !aA x d[a]!) d i j),.bool true,.sl (aY (swp d (scanDown (fun x=> !aA x d[a]!) d i j) a))])->(¬i>scanDown (fun x=> !aA x d[a]!) d i j->Rn F X 177 3 [.sl (aY (swp d i (scanDown (fun x=> !aA x d[a]!) d i j))),jD a,jD (i+1),jD (scanDown (fun x=> !aA x d[a]!) d i j - 1)] Q)->Rn F X 177 2 [.sl (aY d),jD a,jD i,jD j] Q:=by
 intro j
 induction j with
 |zero=>
  intro hj H1 H2;refine wr Y ?_;rw[vd (fun x=> !aA x d[a]!) _ _ _ (.inl MK)] at H1;refine wn Y (ke (a:=(i:Nat)) (b:=0))<|wy Y (bZ (a:=(i:Nat)) (b:=0)) ?_;refine W.ld Y ha ?_;refine W.ld Y (i:=0) hj ?_;dsimp only [Nd.r,c_,n_];exact W.sw (i:=0) (j:=a) rfl rfl rfl rfl hj ha (wt Y (H1 MK))
 |succ j ih=>
  intro hj H1 H2;refine wr Y ?_;by_cases h:i<=j+1
  ·refine wy Y ke ?_;refine W.ld Y hj ?_;refine W.ld Y ha ?_;dsimp only [Nd.r,c_,n_];refine W.lt Y Y (fun h2=> ?_) (fun h2=> ?_)
   ·rw[vd (fun x=> !aA x d[a]!) _ _ _ (.inr (by rw[h2];rfl))] at H1 H2;refine wn Y bZ ?_;refine W.ld Y hj ?_;refine W.ld Y MK ?_;dsimp only [Nd.r,c_,n_];refine W.sw Y Y Y Y MK hj ?_;exact wo Y (bg (a:=i) (b:=1) MK)<|wo Y (nF (j:=j) MK)<|b_ Y (H2 MK)
   ·rw[P7 (fun x=> !aA x d[a]!) _ _ _ h (by rw[h2];rfl)] at H1 H2;exact wo Y (nF (j:=j) MK)<|b_ Y (ih MK H1 H2)
  ·rw[vd (fun x=> !aA x d[a]!) _ _ _ (.inl h)] at H1 H2;refine wn Y ke<|wy Y bZ ?_;refine W.ld Y ha ?_;refine W.ld Y hj ?_;dsimp only [Nd.r,c_,n_];exact W.sw Y Y Y Y hj ha (wt Y (H1 MK))
theorem kV{a i:Nat}{d:Kz}(ha:a<d.size)(hi:1<=i)(hd:d.size<=1000000):∀(j:Nat),j<d.size->(i>scanDown (fun x=> !aA x d[a]!) d i j->Q [jD (scanDown (fun x=> !aA x d[a]!) d i j),.bool false,.sl (aY (swp d (scanDown (fun x=> !aA x d[a]!) d i j) a))])->(¬i>scanDown (fun x=> !aA x d[a]!) d i j->Rn F X 177 3 [.sl (aY (swp d i (scanDown (fun x=> !aA x d[a]!) d i j))),jD a,jD (i+1),jD (scanDown (fun x=> !aA x d[a]!) d i j - 1)] Q)->Rn F X 177 5 [.sl (aY d),jD a,jD i,jD j] Q:=by
 intro j
 induction j with
 |zero=>
  intro hj H1 H2;refine wr Y ?_;rw[vd (fun x=> !aA x d[a]!) _ _ _ (.inl MK)] at H1;refine wn Y (ke (a:=(i:Nat)) (b:=0))<|wy Y (bZ (a:=(i:Nat)) (b:=0)) ?_;refine W.ld Y ha ?_;refine W.ld Y (i:=0) hj ?_;dsimp only [Nd.r,c_,n_];exact W.sw (i:=0) (j:=a) rfl rfl rfl rfl hj ha (wt Y (H1 MK))
 |succ j ih=>
  intro hj H1 H2;refine wr Y ?_;by_cases h:i<=j+1
  ·refine wy Y ke ?_;refine W.ld Y hj ?_;refine W.ld Y ha ?_;dsimp only [Nd.r,c_,n_];refine W.lt Y Y (fun h2=> ?_) (fun h2=> ?_)
   ·rw[vd (fun x=> !aA x d[a]!) _ _ _ (.inr (by rw[h2];rfl))] at H1 H2;refine wn Y bZ ?_;refine W.ld Y hj ?_;refine W.ld Y MK ?_;dsimp only [Nd.r,c_,n_];refine W.sw Y Y Y Y MK hj ?_;exact wo Y (bg (a:=i) (b:=1) MK)<|wo Y (nF (j:=j) MK)<|b_ Y (H2 MK)
   ·rw[P7 (fun x=> !aA x d[a]!) _ _ _ h (by rw[h2];rfl)] at H1 H2;exact wo Y (nF (j:=j) MK)<|b_ Y (ih MK H1 H2)
  ·rw[vd (fun x=> !aA x d[a]!) _ _ _ (.inl h)] at H1 H2;refine wn Y ke<|wy Y bZ ?_;refine W.ld Y ha ?_;refine W.ld Y hj ?_;dsimp only [Nd.r,c_,n_];exact W.sw Y Y Y Y hj ha (wt Y (H1 MK))
theorem pt3:∀(n i j:Nat) (d:Kz),j+1 - i<=n->a<d.size->j<d.size->1<=i->i<=j+2->d.size<=1000000->Rn F X 177 3 [.sl (aY d),jD a,jD i,jD j] (·=[jD (partLoop aA a i j d).1,.bool false,.sl (aY (swp (partLoop aA a i j d).2 (partLoop aA a i j d).1 a))]):=by
 intro n
 induction n with
 |zero=>
  intro i j d hn ha hj hi BE hd;refine wr Y<|b_ Y ?_;rw[partLoop_eq];have hu:scanUp (fun x=>aA x d[a]!) d j i=i:=rS (fun x=>aA x d[a]!) _ _ _ (.inl MK);have ly:=scanDown_le (fun x=> !aA x d[a]!) d i j;rw[hu];refine su ha hj hd _ i (xk _) MK ?_;rw[hu];refine kV ha hi hd j hj (fun h=> ?_) (fun h=>absurd h MK);rw[i_ h]
 |succ n ih=>
  intro i j d hn ha hj hi BE hd;refine wr Y<|b_ Y ?_;rw[partLoop_eq];obtain⟨u1,u2,_⟩:=scanUp_spec (fun x=>aA x d[a]!) d j _ i rfl;refine su ha hj hd _ i (xk _) MK ?_;generalize scanUp (fun x=>aA x d[a]!) d j i=i2 at u1 u2⊢;have ly:=scanDown_le (fun x=> !aA x d[a]!) d i2 j;refine kV ha MK hd j hj ?_ ?_<;>intro h
  ·rw[i_ h]
  ·rw[j_ h];have h':i2<=scanDown (fun x=> !aA x d[a]!) d i2 j:=Nat.le_of_not_lt h;exact ih _ _ _ MK (by rw[size_swp];exact ha) (by rw[size_swp];omega) MK MK (by rw[size_swp];exact hd)
theorem Y7(hap:a<=p)(hpb:p<b)(hb:b<=d.size)(hd:d.size<=1000000):Rn F X 177 0 [.sl (aY d),jD a,jD b,jD p] (·=[jD (partition aA d a b p).1,.bool (partition aA d a b p).2.1,.sl (aY (partition aA d a b p).2.2)]):=by
 refine wr Y ?_;refine W.ld Y MK ?_;refine W.ld Y MK ?_;dsimp only [Nd.r,c_,n_];refine W.sw Y Y Y Y MK MK ?_;refine wo Y (bg (a:=a) (b:=1) MK)<|wo Y (eO (a:=b) (b:=1) MK MK) ?_;have aV:(swp d a p).size=d.size:=size_swp _ _ _;refine b_ Y (pt1 (by rw[aV];omega) (by rw[aV];omega) (by rw[aV];exact hd) _ (a+1) (xk _) MK ?_);obtain⟨u1,u2,_⟩:=scanUp_spec (fun x=>aA x (swp d a p)[a]!) (swp d a p) (b - 1) _ (a+1) rfl;unfold partition;dsimp only;generalize scanUp (fun x=>aA x (swp d a p)[a]!) (swp d a p) (b - 1) (a+1)=i2 at u1 u2⊢;have ly:=scanDown_le (fun x=> !aA x (swp d a p)[a]!) (swp d a p) i2 (b - 1);refine pt2 (by rw[aV];omega) MK (by rw[aV];exact hd) (b - 1) (by rw[aV];omega) (fun h=> ?_) (fun h=> ?_)
 ·rw[i_ h]
 ·rw[j_ h];have h':i2<=scanDown (fun x=> !aA x (swp d a p)[a]!) (swp d a p) i2 (b - 1):=Nat.le_of_not_lt h;have cJ:∀j,(swp (swp d a p) i2 j).size=d.size:=fun j=>by rw[size_swp,aV]
  exact pt3 _ _ _ _ (xk _) (by rw[cJ];omega) (by rw[cJ];omega) MK MK (by rw[cJ];exact hd)
end
abbrev gJ(n:Nat):D:= .int .u64 (n:Nat)
theorem wrap64(h:n<18446744073709551616):fR .u64 (n:Nat)=(n:Nat):=by
 rw[lA,IntWalk.u64_in _ MK]
theorem NV(x y:UInt64):aF (.bin .xor c) [gJ x.toNat,gJ y.toNat]=some (gJ (x^^^y).toNat):=by
 show some (D.int .u64 (fR .u64 ((Nat.xor (x.toNat%18446744073709551616) (y.toNat%18446744073709551616):Nat):Int)))=_;rw[Nat.mod_eq_of_lt x.toNat_lt,Nat.mod_eq_of_lt y.toNat_lt];have e:Nat.xor x.toNat y.toNat=(x^^^y).toNat:=(UInt64.toNat_xor x y).symm;rw[e,wrap64 (UInt64.toNat_lt _)]
theorem V'(x:UInt64)(k:UInt64)(hk:k.toNat<64):aF (.bin .shl c) [gJ x.toNat,gJ k.toNat]=some (gJ (x<<<k).toNat):=by
 show ofInt (bs (kL ((k.toNat:Nat):Int) 0) none (some (.int .u64 (fR .u64 (Int.mul (x.toNat:Nat) (.ofNat (Nat.pow 2 (Nat.min (Int.toNat (k.toNat:Nat)) 64))))))))=_;rw[oT,f_ MK];show some (D.int .u64 (fR .u64 ((x.toNat:Int)*((2^ (Nat.min k.toNat 64):Nat):Int))))=_;rw[show Nat.min k.toNat 64=k.toNat from Nat.min_eq_left MK];have e:(x<<<k).toNat=x.toNat*2^k.toNat%18446744073709551616:=by
  rw[UInt64.toNat_shiftLeft,Nat.mod_eq_of_lt hk,Nat.shiftLeft_eq]
 rw[e,show(x.toNat:Int)*((2^k.toNat:Nat):Int)=((x.toNat*2^k.toNat:Nat):Int) by simp,lA]
 congr 2
theorem IT(x:Nat)(k:Nat)(hk:k<64):aF (.bin .shr c) [gJ x,gJ k]=some (gJ (x/2^k)):=by
 show ofInt (bs (kL ((k:Nat):Int) 0) none (some (.int .u64 (Int.fdiv (x:Nat) (.ofNat (Nat.pow 2 (Nat.min (Int.toNat (k:Nat)) 64)))))))=_;rw[oT,f_ MK];show some (D.int .u64 (Int.fdiv (x:Int) ((2^ (Nat.min k 64):Nat):Int)))=_;rw[show Nat.min k 64=k from Nat.min_eq_left MK,<-Int.ofNat_fdiv]
theorem aE4(x y:Nat)(hx:x<18446744073709551616)(hy:y<18446744073709551616):aF (.bin .and c) [gJ x,gJ y]=some (gJ (x&&&y)):=by
 show some (D.int .u64 (fR .u64 ((Nat.land (x%18446744073709551616) (y%18446744073709551616):Nat):Int)))=_;rw[Nat.mod_eq_of_lt hx,Nat.mod_eq_of_lt hy];have e:Nat.land x y=x&&&y:=rfl;rw[e,wrap64 (Nat.lt_of_le_of_lt Nat.and_le_left hx)]
theorem aE3{x y:Nat}(h:y<=x)(hx:x<18446744073709551616):aF (.bin .sub c) [gJ x,gJ y]=some (gJ (x - y)):=by
 show some (D.int .u64 (fR .u64 ((x:Int) - (y:Int))))=_;rw[show(x:Int) - (y:Int)=((x - y:Nat):Int) by omega,wrap64 MK]
theorem Oz{k:xO}(h:n<=9223372036854775807):aF (.kS .u64) [.int k (n:Nat)]=some (gJ n):=by
 show some (D.int .u64 (IntKind.u64.wrap n))=_;rw[IntWalk.u64_in _ MK]
section
theorem aA6(x:UInt64):Rn F X 182 0 [gJ x.toNat] (·=[gJ (xorNext x).toNat,gJ (xorNext x).toNat]):=by
 refine wr Y<|wo Y (V' x 13 Pp)<|wo Y (NV x (x<<<13))<|wo Y (IT _ 7 Pp) ?_;have e:(x^^^x<<<13).toNat/2^7=((x^^^x<<<13)>>>7).toNat:=by
  rw[UInt64.toNat_shiftRight,Nat.shiftRight_eq_div_pow];rfl
 rw[e];exact wo Y (NV _ _)<|wo Y (V' _ 17 Pp)<|wo Y (NV _ _)<|wt Y Y
def K0:EH:=(List.range 256).map fun n=>(bitsLen n).toUInt8
theorem UW(h:2^k<=n):bitsLen n=k+bitsLen (n/2^k):=by
 induction k generalizing n with
 |zero=>simp
 |succ k ih=>
  have h2:2^k<=n/2:=by rw[Nat.le_div_iff_mul_le MK];rw[Nat.pow_succ] at h;exact h
  have e1:bitsLen n=1+bitsLen (n/2):=by
   have hp:0<2^k:=Nat.pow_pos MK;unfold bitsLen;rw[j_ MK,j_ MK];have:n.log2=(n/2).log2+1:=by rw[Nat.log2_def,i_ (by rw[Nat.pow_succ] at h;omega)]
   omega
  rw[e1,ih h2,Nat.div_div_eq_div_mul,Nat.pow_succ,Nat.mul_comm 2];omega
theorem OF(h:n<256){l:EH}(hl:l=K0):aF .DH [.str l,.int .u8 (n:Nat)]=some (.int .u8 ((bitsLen n:Nat):Int)):=by
 subst hl;have h1:K0[n]? =some (bitsLen n).toUInt8:=by
  unfold K0;rw[xx,List.getElem?_range h];rfl
 have h2:bitsLen n<256:=by
  unfold bitsLen;split
  ·omega
  ·have:n.log2<8:=(Nat.log2_lt MK).2 h;omega
 show(K0[n]?).map (fun b=>D.int .u8 b.toNat)=_;rw[h1];show some (D.int .u8 (((bitsLen n).toUInt8.toNat:Nat):Int))=_;rw[show(bitsLen n).toUInt8.toNat=bitsLen n from Nat.mod_eq_of_lt h2]
theorem xZ(h:n<1048576):bitsLen n<=20:=by
 unfold bitsLen;split
 ·omega
 ·have:n.log2<20:=(Nat.log2_lt MK).2 h;omega
theorem JO(h:n<=1000000):Rn F X 180 0 [gJ n] (·=[jD (bitsLen n)]):=by
 refine wr Y<|d_ Y eP (fun h1=>MK) (fun _=> ?_);refine d_ Y eP (fun h1=> ?_) (fun h1=> ?_)
 ·have e1:=UW (n:=n) (k:=16) MK;refine wo Y (IT n 16 Pp)<|d_ Y eP (fun h2=>MK) (fun h2=> ?_);refine wo Y (yf (n:=n/2^16) MK)<|wo Y (OF (n:=n/2^16) MK (by decide+kernel))<|wo Y (Ai (k:= .u8) (n:=bitsLen (n/2^16)) (by have:=xZ (n:=n/2^16) MK;omega))<|wo Y (bg (a:=16) (by have:=xZ (n:=n/2^16) MK;omega))<|wt Y ?_;rw[e1]
 ·refine d_ Y eP (fun h2=> ?_) (fun h2=> ?_)
  ·have e1:=UW (n:=n) (k:=8) MK;refine wo Y (IT n 8 Pp)<|wo Y (yf (n:=n/2^8) MK)<|wo Y (OF (n:=n/2^8) MK (by decide+kernel))<|wo Y (Ai (k:= .u8) (n:=bitsLen (n/2^8)) (by have:=xZ (n:=n/2^8) MK;omega))<|wo Y (bg (a:=8) (by have:=xZ (n:=n/2^8) MK;omega))<|wt Y ?_;rw[e1]
  ·refine wo Y (yf (n:=n) MK)<|wo Y (OF (n:=n) MK (by decide+kernel))<|wo Y (Ai (k:= .u8) (n:=bitsLen n) (by have:=xZ (n:=n) MK;omega))<|wo Y (bg (a:=0) (by have:=xZ (n:=n) MK;omega))<|wt Y ?_;rw[Nat.zero_add]
theorem aN6(h:n<=1000000):Rn F X 181 0 [jD n] (·=[gJ (1<<<bitsLen n)]):=by
 have hb:=xZ (n:=n) MK;refine wr Y<|wo Y (Oz (k:= .i64) (n:=n) MK)<|Wp.ig (f:=113) rfl (JO h) rfl ?_;have e2:aF (.bin .shl 0) [.int .u64 1,jD (bitsLen n)]=some (gJ (1<<<bitsLen n)):=by
  show ofInt (bs (kL ((bitsLen n:Nat):Int) 0) none (some (.int .u64 (fR .u64 (Int.mul 1 (.ofNat (Nat.pow 2 (Nat.min (Int.toNat (bitsLen n:Nat)) 64))))))))=_;rw[oT,f_ MK];show some (D.int .u64 (fR .u64 (1*((2^ (Nat.min (bitsLen n) 64):Nat):Int))))=_;rw[show Nat.min (bitsLen n) 64=bitsLen n from Nat.min_eq_left MK,Int.one_mul,Nat.one_shiftLeft,wrap64];exact Nat.lt_of_le_of_lt (Nat.pow_le_pow_right MK hb) Pp
 exact wo Y e2<|wt Y Y
theorem Oe{len pW m:Nat}{r:UInt64}(hm:1<=m)(j4:m<=2*len)(hb:a+len<=d.size)(hd:d.size<=1000000)(hi:pW<d.size)(aN:pW<=a+len/4*2+1)
 (h:Rn F X 170 1 [.sl (aY (breakStep a len m (r,d) pW).2),jD a,jD len,gJ m,jD (pW+1),gJ (breakStep a len m (r,d) pW).1.toNat] Q):
 Rn F X 170 1 [.sl (aY d),jD a,jD len,gJ m,jD pW,gJ r.toNat] Q:=by
 refine wr Y<|wo Y (vj (a:=len) (b:=4) MK MK)<|wo Y (rT (a:=len/4) (b:=2) MK)<|wo Y (bg (a:=a) (b:=len/4*2) MK)<|wo Y (bg (a:=a+len/4*2) (b:=1) MK)<|Wp.nz Y (by rw[ke,u_ MK])<|Wp.ig (f:=206) rfl (aA6 r) rfl ?_;have hs:breakStep a len m (r,d) pW=(xorNext r,swp d pW (a+if(xorNext r).toNat&&& (m - 1)≥len then((xorNext r).toNat&&& (m - 1)) - len else(xorNext r).toNat&&& (m - 1))):=rfl;rw[hs] at h;clear hs;generalize len/4*2=z1;generalize len/4=z2;generalize xorNext r=r1 at h⊢;refine wo Y (aE3 (x:=m) (y:=1) hm MK)<|wo Y (aE4 (x:=r1.toNat) (y:=m - 1) (UInt64.toNat_lt _) MK) ?_;have hx:r1.toNat&&& (m - 1)<=m - 1:=Nat.and_le_right;refine wo Y (Ai (k:= .u64) (n:=r1.toNat&&& (m - 1)) MK) ?_;generalize r1.toNat&&& (m - 1)=o at h hx⊢;generalize r1.toNat=r2 at h⊢;generalize uF:m - 1=m1 at hx⊢;dsimp only [c_,n_];refine d_ Y eP (fun h2=> ?_) (fun h2=> ?_)
 ·rw[i_ MK] at h;refine wo Y (eO (a:=o) (b:=len) MK MK) ?_;generalize hp:o - len=p at h⊢;refine wo Y (bg (a:=a) (b:=p) MK)<|wo Y (bg (a:=a) (b:=p) MK) ?_;refine W.ld (i:=a+p) rfl MK ?_;refine W.ld (i:=pW) rfl hi ?_;dsimp only [c_,n_];refine W.sw (i:=pW) (j:=a+p) rfl rfl rfl rfl hi MK ?_;dsimp only [c_,n_];exact wo Y (bg (a:=pW) (b:=1) MK)<|wj h
 ·rw[j_ MK] at h;refine wo Y (bg (a:=a) (b:=o) MK)<|wo Y (bg (a:=a) (b:=o) MK) ?_;refine W.ld (i:=a+o) rfl MK ?_;refine W.ld (i:=pW) rfl hi ?_;dsimp only [c_,n_];refine W.sw (i:=pW) (j:=a+o) rfl rfl rfl rfl hi MK ?_;dsimp only [c_,n_];exact wo Y (bg (a:=pW) (b:=1) MK)<|wj h
theorem bf8(iw:a<=b)(hb:b<=d.size)(hd:d.size<=1000000):Rn F X 170 0 [.sl (aY d),jD a,jD b] (·=[.sl (aY (breakPatterns d a b))]):=by
 refine wr Y<|wo Y (eO (a:=b) (b:=a) iw MK)<|d_ Y eP ?_ ?_<;>intro h
 ·have h8:8<=b - a:=MK
  have e:breakPatterns d a b=(breakStep a (b - a) (1<<<bitsLen (b - a)) (breakStep a (b - a) (1<<<bitsLen (b - a)) (breakStep a (b - a) (1<<<bitsLen (b - a)) (UInt64.ofNat (b - a),d) (a+(b - a)/4*2 - 1)) (a+(b - a)/4*2 - 1+1)) (a+(b - a)/4*2 - 1+2)).2:=by
   unfold breakPatterns;exact i_ h8
  rw[e];have hz:∀(st:UInt64×Kz) (i:Nat),(breakStep a (b - a) (1<<<bitsLen (b - a)) st i).2.size=st.2.size:=fun st i=>size_swp _ _ _
  refine wo Y (Oz (k:= .i64) (n:=b - a) MK)<|Wp.ig (f:=205) rfl (aN6 (n:=b - a) MK) rfl<|wo Y (vj (a:=b - a) (b:=4) MK MK)<|wo Y (rT (a:=(b - a)/4) (b:=2) MK)<|wo Y (bg (a:=a) (b:=(b - a)/4*2) MK)<|wo Y (eO (a:=a+(b - a)/4*2) (b:=1) MK MK)<|b_ Y ?_;have e6:(UInt64.ofNat (b - a)).toNat=b - a:=Nat.mod_eq_of_lt MK;have m1:1<=1<<<bitsLen (b - a):=by rw[Nat.one_shiftLeft];exact Nat.two_pow_pos _
  have m2:1<<<bitsLen (b - a)<=2*(b - a):=by rw[Nat.one_shiftLeft];exact two_pow_bitsLen_le MK
  have e7:gJ (b - a)=gJ (UInt64.ofNat (b - a)).toNat:=by rw[e6]
  have e8:Rn F X 170 1 [.sl (aY d),jD a,jD (b - a),gJ (1<<<bitsLen (b - a)),jD (a+(b - a)/4*2 - 1),gJ (UInt64.ofNat (b - a)).toNat] (·=[.sl (aY (breakStep a (b - a) (1<<<bitsLen (b - a)) (breakStep a (b - a) (1<<<bitsLen (b - a)) (breakStep a (b - a) (1<<<bitsLen (b - a)) (UInt64.ofNat (b - a),d) (a+(b - a)/4*2 - 1)) (a+(b - a)/4*2 - 1+1)) (a+(b - a)/4*2 - 1+2)).2)]):=by
   refine Oe m1 m2 MK hd MK MK ?_;generalize dA:breakStep a (b - a) (1<<<bitsLen (b - a)) (UInt64.ofNat (b - a),d) (a+(b - a)/4*2 - 1)=s1;have z1:s1.2.size=d.size:=by rw[<-dA];exact hz _ _
   refine Oe (d:=s1.2) (r:=s1.1) m1 m2 MK MK MK MK ?_;generalize cJ:breakStep a (b - a) (1<<<bitsLen (b - a)) s1 (a+(b - a)/4*2 - 1+1)=s2;have z2:s2.2.size=d.size:=by rw[<-cJ];exact(hz _ _).trans z1
   refine Oe (d:=s2.2) (r:=s2.1) m1 m2 MK MK MK MK ?_;generalize mH:breakStep a (b - a) (1<<<bitsLen (b - a)) s2 (a+(b - a)/4*2 - 1+2)=s3;exact wr Y<|wo Y (vj (a:=b - a) (b:=4) MK MK)<|wo Y (rT (a:=(b - a)/4) (b:=2) MK)<|wo Y (bg (a:=a) (b:=(b - a)/4*2) MK)<|wo Y (bg (a:=a+(b - a)/4*2) (b:=1) MK)<|Wp.qQ Y (by rw[ke,f_ MK])<|wt Y Y
  rw[<-e7] at e8;exact e8
 ·have e:breakPatterns d a b=d:=by
   unfold breakPatterns;exact j_ MK
  rw[e];exact wt Y Y
end
theorem qp:SWO aA where
 irrefl x:=by unfold aA;exact f_ MK
 trans x y z h1 h2:=by unfold aA at*;rw[decide_eq_true_eq] at*;omega
 ntrans x y z h1 h2:=by unfold aA at*;rw[decide_eq_false_iff_not] at*;omega
def SQ(a b:Nat)(d:Kz)(o:Di):Prop:=∃R,o=[.sl (aY R)]/\PermIn a b d R/\SortedIn aA a b R
abbrev v8(d:Kz)(a b l:Nat):Di:=[.sl (aY d),jD a,jD b,jD l]
abbrev dn(env:Di)(c:Nat):KA:=aX (lk env) (cd c)
theorem fe{x:D}(h:dn env c=some x)(xs:Di):dn (env++xs) c=some x:=by
 show(((env++xs)[c]?).bind fun x=>if x.cell then some x else none)=some x;have h:((env[c]?).bind fun x=>if x.cell then some x else none)=some x:=h;obtain⟨y,e,h2⟩:=xr.1 h;have hc:=(xe.1 e).1;rw[xw hc];exact h
theorem Bf(h:env.length=n):dn (env++xs) (n+k)=(xs[k]?).bind fun x=>if x.cell then some x else none:=by
 show(((env++xs)[n+k]?).bind fun x=>if x.cell then some x else none)=_;rw[xq MK,h,Nat.add_sub_cancel_left]
theorem bQ{g:xM->KA}{v:xM}{l:C3}{x:D}(h1:g v=some x)(h2:aH g l=some xs):aH g (v::l)=some (x::xs):=by
 unfold aH;rw[h1,h2]
def qR(us:C3)(t:DT):DT:= .note ⟨.own 1,[.tuple ⟨[.int .i64 10]⟩,.tuple ⟨us⟩],J⟩ t
def S3(n l h:Nat):DT:=qR [cd (n+2),cd 1,cd n,cd l] (.call 112 178 [cd (n+2),cd 1,cd n,cd l] [no] (.op (.bin .add 0) [cd n,.int .i64 1] (.jump h 0 [10] [cd (n+6),cd (n+7),cd 2,cd l] [cd (n+6),cd (n+7),cd 2,cd l])) .stop)
def SS(n l h:Nat):DT:= .op (.bin .add 0) [cd n,.int .i64 1] (qR [cd (n+2),cd (n+6),cd 2,cd l] (.call 112 178 [cd (n+2),cd (n+6),cd 2,cd l] [no] (.jump h 0 [10] [cd (n+7),cd 1,cd n,cd l] [cd (n+7),cd 1,cd n,cd l]) .stop))
def Qe(n L l h h':Nat):DT:= .op (.bin .sub 0) [cd n,cd 1] (.op (.bin .sub 0) [cd 2,cd n] (.op (.bin .quo 0) [cd L,.int .i64 8] (.br (.bin .lss 0) [cd (n+3),cd (n+4)] (.br (.bin .geq 0) [cd (n+3),cd (n+5)] (S3 n l h) (S3 n l h')) (.br (.bin .geq 0) [cd (n+4),cd (n+5)] (SS n l h) (SS n l h')))))
def Uk(n D P L l:Nat):DT:= .call 160 177 [cd D,cd 1,cd 2,cd P] [no,tt,no] (Qe n L l 1 2) (.call 160 177 [cd D,cd 1,cd 2,cd P] [no,ff,no] (Qe n L l 3 4) .stop)
def l4(n D P L l h:Nat):DT:= .br (.bin .gtr 0) [cd 1,.int .i64 0] (.op (.bin .sub 0) [cd 1,.int .i64 1] (.br .iO [cd 0,cd n] (.aQ (.pD 0 3 true) [cd D,cd n] [no,no,no] (.br .iO [cd 0,cd P] (.aQ (.pD 0 3 true) [cd D,cd P] [no,no,no] (.note ⟨.own 1,[.tuple ⟨[]⟩,.tuple ⟨[cd (n+1),cd (n+2),cd (n+3),cd (n+4),cd (n+5),cd (n+6)]⟩],J⟩ (.call 48 132 [cd (n+1),cd (n+2),cd (n+3),cd (n+4),cd (n+5),cd (n+6)] [no] (.br (.bin .lss 0) [cd (n+7),.int .i64 0] (qR [cd D,cd 1,cd 2,cd P] (Uk (n+8) D P L l)) (qR [cd D,cd 1,cd 2,cd P] (.call 159 176 [cd D,cd 1,cd 2,cd P] [no,no] (.jump h 0 [10] [cd (n+9),cd (n+8),cd 2,cd l] [cd (n+9),cd (n+8),cd 2,cd l]) .stop))) .stop)) .stop) .stop) .stop) .stop)) (qR [cd D,cd 1,cd 2,cd P] (Uk n D P L l))
section
variable{q g l:Nat}{lim:Nat}
def Ih(X:Bv)(z:Nat):Prop:=∀(h a b:Nat) (d:Kz) (lim:Nat),h<=4->b - a<z->a<=b->b<=d.size->d.size<=1000000->lim<=1000->Sort.Below aA a b d->Rn F X 178 h (v8 d a b lim) (SQ a b d)
structure uQ (env:Di) (n c q g l:Nat) (d:Kz) (a b p lim:Nat):Prop where
 en:env.length=n
 ea:dn env 1=some (jD a)
 eb:dn env 2=some (jD b)
 ec:dn env c=some (.sl (aY d))
 eq:dn env q=some (jD p)
 eg:dn env g=some (jD (b - a))
 el:dn env l=some (jD lim)
theorem uQ.more(h:uQ env n c q g l d a b p lim){m:Nat}(hm:xs.length=m):uQ (env++xs) (n+m) c q g l d a b p lim:=
 ⟨by rw[xa,h.en,hm],fe h.ea xs,fe h.eb xs,fe h.ec xs,fe h.eq xs,fe h.eg xs,fe h.el xs⟩
theorem Yv(h:uQ env n c q g l d a b p lim){x3 x4 x5:Nat}{ap:D}(hh:h'<=4)(eA:Ih X (b - a))(hl:lim<=1000)(h9:b<=1000000)(g1:a<=eV)(g2:eV<b)(hb:b<=d4.size)(hd:d4.size<=1000000)(hB:Sort.Below aA a eV d4)
 (Aw:∀L,PermIn a eV d4 L->SortedIn aA a eV L->Sort.Below aA (eV+1) b L/\∀R,PermIn (eV+1) b L R->SortedIn aA (eV+1) b R->PermIn a b d R/\SortedIn aA a b R):
 Wp F X 178 (S3 n l h') (env++[jD eV,ap,.sl (aY d4),jD x3,jD x4,jD x5]) (SQ a b d):=by
 have hn:=fun xs k=>Bf (xs:=xs) (k:=k) h.en
 refine Wp.note (Wp.call (ds:=v8 d4 a eV lim) (bQ (hn _ 2) (bQ (fe h.ea _) (bQ (hn _ 0) (bQ (fe h.el _) rfl)))) (eA 0 a eV d4 lim MK MK g1 MK hd hl hB) fun o ho=> .inl ?_);obtain⟨R,rfl,r1,r2⟩:=ho;obtain⟨q1,q2⟩:=Aw R r1 r2;refine⟨rfl,?_⟩;rw[a_];refine e_ (ds:=[jD eV,jD 1]) (bQ (hn _ 0) rfl) (bg MK) rfl ?_;rw[a_];refine b_ (ds:=v8 R (eV+1) b lim) (bQ (hn _ 6) (bQ (hn _ 7) (bQ (fe h.eb _) (bQ (fe h.el _) rfl)))) ((eA h' (eV+1) b R lim hh MK MK (by rw[r1.1];exact hb) (by rw[r1.1];exact hd) hl q1).mono ?_);rintro o ⟨S,rfl,s1,s2⟩;exact⟨S,rfl,q2 S s1 s2⟩
theorem Ya(h:uQ env n c q g l d a b p lim){x3 x4 x5:Nat}{ap:D}(hh:h'<=4)(eA:Ih X (b - a))(hl:lim<=1000)(h9:b<=1000000)(g1:a<=eV)(g2:eV<b)(hb:b<=d4.size)(hd:d4.size<=1000000)(hB:Sort.Below aA (eV+1) b d4)
 (JT:∀L,PermIn (eV+1) b d4 L->SortedIn aA (eV+1) b L->Sort.Below aA a eV L/\∀R,PermIn a eV L R->SortedIn aA a eV R->PermIn a b d R/\SortedIn aA a b R):
 Wp F X 178 (SS n l h') (env++[jD eV,ap,.sl (aY d4),jD x3,jD x4,jD x5]) (SQ a b d):=by
 have hn:=fun xs k=>Bf (xs:=xs) (k:=k) h.en
 refine e_ (ds:=[jD eV,jD 1]) (bQ (hn _ 0) rfl) (bg MK) rfl ?_;rw[a_];refine Wp.note (Wp.call (ds:=v8 d4 (eV+1) b lim) (bQ (hn _ 2) (bQ (hn _ 6) (bQ (fe h.eb _) (bQ (fe h.el _) rfl)))) (eA 0 (eV+1) b d4 lim MK MK MK hb hd hl hB) fun o ho=> .inl ?_);obtain⟨R,rfl,r1,r2⟩:=ho;obtain⟨q1,q2⟩:=JT R r1 r2;refine⟨rfl,?_⟩;rw[a_];refine b_ (ds:=v8 R a eV lim) (bQ (hn _ 7) (bQ (fe h.ea _) (bQ (hn _ 0) (bQ (fe h.el _) rfl)))) ((eA h' a eV R lim hh MK g1 (by rw[r1.1];omega) (by rw[r1.1];exact hd) hl q1).mono ?_);rintro o ⟨S,rfl,s1,s2⟩;exact⟨S,rfl,q2 S s1 s2⟩
theorem V8(h:uQ env n c q g l d a b p lim){h1 h2:Nat}{ap:Bool}(hh1:h1<=4)(HP:h2<=4)(eA:Ih X (b - a))(hl:lim<=1000)(po:a<=p)(aO:p<b)(hb:b<=d.size)(hd:d.size<=1000000)(hB:Sort.Below aA a b d)(hx:partition aA d a b p=(eV,ap,d4)):
 Wp F X 178 (Qe n g l h1 h2) (env++[jD eV,.bool ap,.sl (aY d4)]) (SQ a b d):=by
 have hn:=fun xs k=>Bf (xs:=xs) (k:=k) h.en
 obtain⟨g1,g2,pn,hBa,hBr,Aw,JT⟩:=round_part qp (partition_holds _) po aO hb hB hx;refine e_ (ds:=[jD eV,jD a]) (bQ (hn _ 0) (bQ (fe h.ea _) rfl)) (eO g1 MK) rfl ?_;rw[a_];refine e_ (ds:=[jD b,jD eV]) (bQ (fe h.eb _) (bQ (hn _ 0) rfl)) (eO MK MK) rfl ?_;rw[a_];refine e_ (ds:=[jD (b - a),jD 8]) (bQ (fe h.eg _) rfl) (vj MK MK) rfl ?_;rw[a_];refine d_ (ds:=[jD (eV - a),jD (b - eV)]) (bQ (hn _ 3) (bQ (hn _ 4) rfl)) af (fun _=> ?_) (fun _=> ?_)
 ·refine d_ (ds:=[jD (eV - a),jD ((b - a)/8)]) (bQ (hn _ 3) (bQ (hn _ 5) rfl)) eP (fun _=> ?_) (fun _=> ?_)
  ·exact Yv h hh1 eA hl MK g1 g2 MK MK hBa Aw
  ·exact Yv h HP eA hl MK g1 g2 MK MK hBa Aw
 ·refine d_ (ds:=[jD (b - eV),jD ((b - a)/8)]) (bQ (hn _ 4) (bQ (hn _ 5) rfl)) eP (fun _=> ?_) (fun _=> ?_)
  ·exact Ya h hh1 eA hl MK g1 g2 MK MK hBr JT
  ·exact Ya h HP eA hl MK g1 g2 MK MK hBr JT
theorem YU(h:uQ env n c q g l d a b p lim)(eA:Ih X (b - a))(hl:lim<=1000)(po:a<=p)(aO:p<b)(hb:b<=d.size)(hd:d.size<=1000000)(hB:Sort.Below aA a b d):Wp F X 178 (Uk n c q g l) env (SQ a b d):=by
 have e:aH (aX (lk env)) [cd c,cd 1,cd 2,cd q]=some [.sl (aY d),jD a,jD b,jD p]:=bQ h.ec (bQ h.ea (bQ h.eb (bQ h.eq rfl)));refine Wp.call e (Y7 po aO hb hd) ?_;rintro o rfl;cases hx:(partition aA d a b p).2.1 with
 |true=>exact .inl ⟨rfl,V8 h MK MK eA hl po aO hb hd hB (by rw[<-hx])⟩
 |false=>
  refine .inr ⟨rfl,Wp.ig e (Y7 po aO hb hd) (by rw[hx];rfl) ?_⟩;rw[hx];exact V8 h MK MK eA hl po aO hb hd hB (by rw[<-hx])
theorem F6(h:uQ env n c q g l d a b p lim){r0:Kz}(h0:dn env 0=some (.sl (aY r0)))(gp:r0.size=d.size)(hh:h'<=4)(eA:Ih X (b - a))(hl:lim<=1000)(po:a<=p)(aO:p<b)(hb:b<=d.size)(hd:d.size<=1000000)(hB:Sort.Below aA a b d):Wp F X 178 (l4 n c q g l h') env (SQ a b d):=by
 refine d_ (ds:=[jD a,jD 0]) (bQ h.ea rfl) bZ (fun ha=> ?_) (fun _=>Wp.note (YU h eA hl po aO hb hd hB));have hn:=fun xs k=>Bf (xs:=xs) (k:=k) h.en
 refine e_ (ds:=[jD a,jD 1]) (bQ h.ea rfl) (eO MK MK) rfl<|Wp.nz (ds:=[.sl (aY r0),jD (a - 1)]) (bQ (fe h0 _) (bQ (hn _ 0) rfl)) (FY MK)<|o_ (ds:=[.sl (aY d),jD (a - 1)]) (bQ (fe h.ec _) (bQ (hn _ 0) rfl)) (Ph MK) rfl ?_;rw[a_];refine Wp.nz (ds:=[.sl (aY r0),jD p]) (bQ (fe h0 _) (bQ (fe h.eq _) rfl)) (FY MK)<|o_ (ds:=[.sl (aY d),jD p]) (bQ (fe h.ec _) (bQ (fe h.eq _) rfl)) (Ph MK) rfl ?_;rw[a_];have e:aH (aX (lk (env++(jD (a - 1)::(d[a - 1]!).r++(d[p]!).r)))) [cd (n+1),cd (n+2),cd (n+3),cd (n+4),cd (n+5),cd (n+6)]=some ((d[a - 1]!).r++(d[p]!).r):=bQ (hn _ 1) (bQ (hn _ 2) (bQ (hn _ 3) (bQ (hn _ 4) (bQ (hn _ 5) (bQ (hn _ 6) rfl)))));refine W.lt (x:=d[a - 1]!) (y:=d[p]!) e ?_ (fun _=> ?_) (fun bm=> ?_)
 ·rw[a_];exact bQ (hn _ 7) rfl
 ·rw[a_];exact Wp.note (YU (h.more rfl) eA hl po aO hb hd hB)
 ·rw[a_];have hk:=h.more (xs:=jD (a - 1)::(d[a - 1]!).r++(d[p]!).r++[gm (qx d[a - 1]! d[p]!)]) (m:=8) rfl;have hm:=fun xs k=>Bf (xs:=xs) (k:=k) hk.en
  cases hx:partitionEqual aA d a b p with
  |mk eV d4=>
  obtain⟨g1,g2,pn,hB4,G8⟩:=round_eq qp (partitionEqual_holds _) MK po aO hb hB bm hx;have e1:=bk1 (X:=X) po aO hb hd;rw[hx] at e1;refine Wp.note (Wp.ig (ds:=[.sl (aY d),jD a,jD b,jD p]) (bQ hk.ec (bQ hk.ea (bQ hk.eb (bQ hk.eq rfl)))) e1 rfl ?_);refine b_ (ds:=v8 d4 eV b lim) (bQ (hm _ 1) (bQ (hm _ 0) (bQ (fe hk.eb _) (bQ (fe hk.el _) rfl)))) ((eA h' eV b d4 lim hh MK g2 MK MK hl hB4).mono ?_);rintro o ⟨R,rfl,r1,r2⟩;exact⟨R,rfl,G8 R r1 r2⟩
theorem SQ.tr{d':Kz}{o:Di}(s:PermIn a b d d')(h:SQ a b d' o):SQ a b d o:=by
 obtain⟨R,e,r1,r2⟩:=h;exact⟨R,e,permIn_trans _ _ _ a b s r1,r2⟩
def CH(n k l h:Nat):DT:=qR [cd k,cd 1,cd 2] (.call 156 174 [cd k,cd 1,cd 2] [no,no,no] (.br (.bin .eql 0) [cd (n+1),.int .i64 2] (qR [cd (n+2),cd 1,cd 2] (.call 157 169 [cd (n+2),cd 1,cd 2] [no] (.op (.bin .sub 0) [cd 2,.int .i64 1] (.op (.bin .sub 0) [cd n,cd 1] (.op (.bin .sub 0) [cd (n+4),cd (n+5)] (l4 (n+7) (n+3) (n+6) 4 l h)))) .stop)) (l4 (n+3) (n+2) n 4 l h)) .stop)
theorem aa4(h:uQ env n c 1 4 l d a b a lim){r0:Kz}(h0:dn env 0=some (.sl (aY r0)))(gp:r0.size=d.size)(hh:h'<=4)(eA:Ih X (b - a))(hl:lim<=1000)(iw:a<b)(hb:b<=d.size)(hd:d.size<=1000000)(hB:Sort.Below aA a b d):Wp F X 178 (CH n c l h') env (SQ a b d):=by
 refine Wp.note (Wp.ig (bQ h.ec (bQ h.ea (bQ h.eb rfl))) (V5 iw hb hd) rfl ?_);have hn:=fun xs k=>Bf (xs:=xs) (k:=k) h.en
 have hc:=choosePivot_holds aA d a b iw;generalize choosePivot aA d a b=r at hc⊢;refine d_ (ds:=[gm (Gs r.2),gm 2]) (bQ (hn _ 1) rfl) ay (fun _=> ?_) (fun _=> ?_)
 ·refine Wp.note (Wp.ig (ds:=[.sl (aY d),jD a,jD b]) (bQ (hn _ 2) (bQ (fe h.ea _) (bQ (fe h.eb _) rfl))) (Yf iw hb hd) rfl ?_);have s:=reverseRange_holds d a b MK hb;rw[a_];refine e_ (ds:=[jD b,jD 1]) (bQ (fe h.eb _) rfl) (eO MK MK) rfl ?_;rw[a_];refine e_ (ds:=[jD r.1,jD a]) (bQ (hn _ 0) (bQ (fe h.ea _) rfl)) (eO hc.1 MK) rfl ?_;rw[a_];refine e_ (ds:=[jD (b - 1),jD (r.1 - a)]) (bQ (hn _ 4) (bQ (hn _ 5) rfl)) (eO MK MK) rfl ?_;rw[a_];exact(F6 (p:=b - 1 - (r.1 - a)) ⟨by rw[xa,h.en];rfl,fe h.ea _,fe h.eb _,hn _ 3,hn _ 6,fe h.eg _,fe h.el _⟩ (fe h0 _) (by rw[s.1];exact gp) hh eA hl MK MK (by rw[s.1];exact hb) (by rw[s.1];exact hd) (hB.perm hb s)).mono fun o=>SQ.tr s
 ·exact F6 (p:=r.1) ⟨by rw[xa,h.en];rfl,fe h.ea _,fe h.eb _,hn _ 2,hn _ 0,fe h.eg _,fe h.el _⟩ (fe h0 _) gp hh eA hl hc.1 hc.2 hb hd hB
def PRE(t:DT):DT:= .op (.bin .sub 0) [cd 2,cd 1] (.br (.bin .leq 0) [cd 4,.int .i64 12] (qR [cd 0,cd 1,cd 2] (.call 153 166 [cd 0,cd 1,cd 2] [no] (.ret [10] [cd 5] [cd 5]) .stop)) (.br (.bin .eql 0) [cd 3,.int .i64 0] (qR [cd 0,cd 1,cd 2] (.call 154 168 [cd 0,cd 1,cd 2] [no] (.ret [10] [cd 5] [cd 5]) .stop)) t))
def BRK(t:DT):DT:=qR [cd 0,cd 1,cd 2] (.call 155 170 [cd 0,cd 1,cd 2] [no] (.op (.bin .sub 0) [cd 3,.int .i64 1] t) .stop)
def Um(k m:Nat)(t:DT):DT:=qR [cd k,cd 1,cd 2] (.call 158 175 [cd k,cd 1,cd 2] [tt,no] (.ret [10] [cd m] [cd m]) (.call 158 175 [cd k,cd 1,cd 2] [ff,no] t .stop))
section
variable(eA:Ih X (b - a))(hl:lim<=1000)(iw:a<=b)(hb:b<=d.size)(hd:d.size<=1000000)(hB:Sort.Below aA a b d)
include iw hb hd in
theorem J3(h:12<b - a->0<lim->Wp F X 178 t [.sl (aY d),jD a,jD b,jD lim,jD (b - a)] (SQ a b d)):Wp F X 178 (PRE t) (v8 d a b lim) (SQ a b d):=by
 refine wo Y (eO (a:=b) (b:=a) iw MK)<|d_ Y ke (fun _=> ?_) (fun h1=>d_ Y ay (fun _=> ?_) (fun h2=>h MK MK))
 ·obtain⟨s1,s2⟩:=insertionSort_holds qp d a b iw hb;exact Wp.note (Wp.ig Y (aZ2 (a:=a) (b:=b) hb hd MK) rfl (wt Y ⟨_,rfl,s1,s2⟩))
 ·obtain⟨s1,s2⟩:=heapSort_holds qp d a b iw hb;exact Wp.note (Wp.ig Y (aQ9 (a:=a) (b:=b) MK hb hd) rfl (wt Y ⟨_,rfl,s1,s2⟩))
include eA hl hb hd hB in
theorem YX(h1:a<b)(h2:0<lim)(hh:h'<=4):Wp F X 178 (BRK (CH 7 5 6 h')) [.sl (aY d),jD a,jD b,jD lim,jD (b - a)] (SQ a b d):=by
 have s:=breakPatterns_holds d a b MK hb;refine Wp.note (Wp.ig Y (bf8 (a:=a) (b:=b) MK hb hd) rfl ?_);refine wo Y (eO (a:=lim) (b:=1) h2 MK) ?_;exact(aa4 (lim:=lim - 1) ⟨rfl,rfl,rfl,rfl,rfl,rfl,rfl⟩ (r0:=d) rfl s.1.symm hh eA MK h1 (by rw[s.1];exact hb) (by rw[s.1];exact hd) (hB.perm hb s)).mono fun o=>SQ.tr s
include hb hd hB in
theorem YV(h1:a<b)(h:uQ env n c 1 4 3 d a b a lim)(ht:∀d',PermIn a b d d'->Wp F X 178 t (env++[.bool false,.sl (aY d')]) (SQ a b d)):Wp F X 178 (Um c (n+1) t) env (SQ a b d):=by
 have hn:=fun xs k=>Bf (xs:=xs) (k:=k) h.en
 have e:aH (aX (lk env)) [cd c,cd 1,cd 2]=some [.sl (aY d),jD a,jD b]:=bQ h.ec (bQ h.ea (bQ h.eb rfl));obtain⟨s1,s2⟩:=partialInsertionSort_holds qp d a b h1 hb hB;have e1:=aN9 (X:=X) h1 hb hd;generalize partialInsertionSort aA d a b=r at s1 s2 e1;obtain⟨R,v⟩:=r;cases v with
 |true=>exact Wp.note (Wp.ig e e1 rfl (Wp.ret (bQ (hn _ 1) rfl) ⟨_,rfl,s1,s2 rfl⟩))
 |false=>exact Wp.note (Wp.AG e e1 rfl (Wp.ig e e1 rfl (ht R s1)))
include eA hl hb hd hB in
theorem bg6(h1:a<b):Wp F X 178 (qR [cd 0,cd 1,cd 2] (.call 156 174 [cd 0,cd 1,cd 2] [no,no,no] (.br (.bin .eql 0) [cd 6,.int .i64 2] (qR [cd 7,cd 1,cd 2] (.call 157 169 [cd 7,cd 1,cd 2] [no] (.op (.bin .sub 0) [cd 2,.int .i64 1] (.op (.bin .sub 0) [cd 5,cd 1] (.op (.bin .sub 0) [cd 9,cd 10] (Um 8 13 (l4 14 13 11 4 3 1))))) .stop)) (.br (.bin .eql 0) [cd 6,.int .i64 1] (Um 7 9 (l4 10 9 5 4 3 1)) (l4 8 7 5 4 3 1))) .stop)) [.sl (aY d),jD a,jD b,jD lim,jD (b - a)] (SQ a b d):=by
 refine Wp.note (Wp.ig Y (V5 h1 hb hd) rfl ?_);have hc:=choosePivot_holds aA d a b h1;generalize choosePivot aA d a b=r at hc⊢;refine d_ (ds:=[gm (Gs r.2),gm 2]) rfl ay (fun _=> ?_) (fun _=>d_ (ds:=[gm (Gs r.2),gm 1]) rfl ay (fun _=> ?_) (fun _=> ?_))
 ·have s:=reverseRange_holds d a b MK hb;have b2:b<=(reverseRange d a b).size:=by rw[s.1];exact hb
  have d2:(reverseRange d a b).size<=1000000:=by rw[s.1];exact hd
  have B2:=hB.perm hb s;refine Wp.note (Wp.ig Y (Yf h1 hb hd) rfl ?_);refine e_ (ds:=[jD b,jD 1]) rfl (eO MK MK) rfl<|e_ (ds:=[jD r.1,jD a]) rfl (eO hc.1 MK) rfl<|e_ (ds:=[jD (b - 1),jD (r.1 - a)]) rfl (eO MK MK) rfl<|Wp.mono (YV (c:=8) (n:=12) (lim:=lim) b2 d2 B2 h1 ⟨rfl,rfl,rfl,rfl,rfl,rfl,rfl⟩ fun d' t=>Wp.mono (F6 (d:=d') (p:=b - 1 - (r.1 - a)) (lim:=lim) ⟨rfl,rfl,rfl,rfl,rfl,rfl,rfl⟩ (r0:=d) rfl (by rw[t.1,s.1]) MK eA hl MK MK (by rw[t.1];exact b2) (by rw[t.1];exact d2) (B2.perm b2 t)) fun o=>SQ.tr t) fun o=>SQ.tr s
 ·refine YV (c:=7) (n:=8) (lim:=lim) hb hd hB h1 ⟨rfl,rfl,rfl,rfl,rfl,rfl,rfl⟩ fun d' t=>Wp.mono (F6 (d:=d') (p:=r.1) (lim:=lim) ⟨rfl,rfl,rfl,rfl,rfl,rfl,rfl⟩ (r0:=d) rfl t.1.symm MK eA hl hc.1 hc.2 (by rw[t.1];exact hb) (by rw[t.1];exact hd) (hB.perm hb t)) fun o=>SQ.tr t
 ·exact F6 (p:=r.1) (lim:=lim) ⟨rfl,rfl,rfl,rfl,rfl,rfl,rfl⟩ (r0:=d) rfl rfl MK eA hl hc.1 hc.2 hb hd hB
include eA hl iw hb hd hB in
theorem Yi:Rn F X 178 1 (v8 d a b lim) (SQ a b d):=Rn.of (fd:=sd) (t:=be2) rfl rfl rfl rfl (J3 iw hb hd fun h1 h2=>bg6 eA hl hb hd hB MK)
include eA hl iw hb hd hB in
theorem bj9:∀h,h<=4->Rn F X 178 h (v8 d a b lim) (SQ a b d)
 |1,_=>Yi eA hl iw hb hd hB
 |2,_=>Rn.of (fd:=sd) (t:=be1) rfl rfl rfl rfl (J3 iw hb hd fun h1 h2=>YX eA hl hb hd hB MK h2 MK)
 |3,_=>Rn.of (fd:=sd) (t:=be0) rfl rfl rfl rfl (J3 iw hb hd fun h1 h2=>aa4 (lim:=lim) ⟨rfl,rfl,rfl,rfl,rfl,rfl,rfl⟩ (r0:=d) rfl rfl MK eA hl MK hb hd hB)
 |4,_=>Rn.of (fd:=sd) (t:=bd9) rfl rfl rfl rfl (J3 iw hb hd fun h1 h2=>YX eA hl hb hd hB MK h2 MK)
 |0,_=>Rn.of (fd:=sd) (t:=be3) rfl rfl rfl rfl (b_ Y (Yi eA hl iw hb hd hB))
 |k+5,h=>absurd h MK
end
theorem Yy:∀z,Ih X z
 |0=>fun h a b d lim _ h0=>absurd h0 MK
 |z+1=>fun h a b d lim hh h0 iw hb hd hl hB=>bj9 (fun h' a' b' d' bv5 k1 k2=>Yy z h' a' b' d' bv5 k1 MK) hl iw hb hd hB h hh
theorem aL8(hd:d.size<=1000000):Rn F X 179 0 [.sl (aY d)] (·=[.sl ((d.toList.mergeSort fun x y=> !aA y x).map Nd.r)]):=by
 refine wr Y<|wo Y bc ?_;rw[W2];refine wo Y (Oz (k:= .i64) (n:=d.size) MK)<|Wp.note (Wp.ig Y (JO hd) rfl ?_);have:=xZ (n:=d.size) MK;refine Wp.note (Wp.call Y (Yy (d.size+1) 0 0 d.size d (bitsLen d.size) MK MK MK MK hd MK (Or.inl rfl)) ?_);rintro o ⟨R,rfl,r1,r2⟩;refine .inl ⟨rfl,wt Y ?_⟩;have e:=sorted_unique_holds qp (fun x y h1 h2=> ?_) d R r1 r2
 ·show[D.sl (R.toList.map Nd.r)]=_;rw[e]
 ·unfold aA at h1 h2;rw[decide_eq_false_iff_not] at h1 h2;cases x;cases y;simp only [Nd.mk.injEq] at*;omega
end
theorem Nd.eq_iff{x y:Nd}:x=y↔x.k=y.k/\x.a=y.a/\x.b=y.b:=by
 cases x;cases y;simp
instance:DecidableEq Nd:=fun _ _=>decidable_of_iff _ Nd.eq_iff.symm
def gW(l:IU):IU:=l.mergeSort fun x y=> !aA y x
theorem oN(l:IU):(gW l).Perm l:=List.mergeSort_perm _ _
theorem O4(l:IU):(gW l).Pairwise fun x y=>aA y x=false:=by
 have:=List.pairwise_mergeSort (le:=fun x y=> !aA y x) (fun a b c h1 h2=> ?_) (fun a b=> ?_) l
 ·exact this.imp fun h=>by simpa using h
 ·simp only [Bool.not_eq_true'] at*;exact qp.ntrans c b a h2 h1
 ·cases h:aA b a with
  |false=>rfl
  |true=>
   cases h2:aA a b with
   |false=>rfl
   |true=>have:=qp.trans _ _ _ h h2;rw[qp.irrefl] at this;cases this
theorem We{x y:Nd}(h1:aA x y=false)(h2:aA y x=false):x=y:=by
 unfold aA at h1 h2;rw[decide_eq_false_iff_not] at h1 h2;rw[Nd.eq_iff];omega
theorem aV4{m:IU}(hp:m.Perm l)(hs:m.Pairwise fun x y=>aA y x=false):gW l=m:=
 List.Perm.eq_of_pairwise (le:=fun x y=>aA y x=false) (fun _ _ _ _ h1 h2=>We h2 h1) (O4 l) hs ((oN l).trans hp.symm)
theorem IF{m:IU}(hp:l.Perm m):gW l=gW m:=aV4 ((oN m).trans hp.symm) (O4 m)
theorem aL7(l:IU):gW (gW l)=gW l:=IF (oN l)
def B0:List Nd->List Nd|[]=>[]|x::t=>if x∈t then B0 t else x::B0 t
theorem FA{x:Nd}:∀{l:IU},x∈B0 l↔x∈l
 |[]=> .rfl
 |y::t=>by
  unfold B0;split
  ·rename_i h;rw[FA,xG];exact⟨.inr,fun h2=>h2.elim (fun e=>e▸h) id⟩
  ·rw[xG,xG,FA]
theorem Pm:∀l:IU,(B0 l).Nodup
 |[]=> .nil
 |y::t=>by
  unfold B0;split
  ·exact Pm t
  ·rename_i h;exact List.nodup_cons.2 ⟨fun h2=>h (FA.1 h2),Pm t⟩
abbrev G2:=List (Nd×List Nd)
variable{G:G2}
abbrev Nd.rs(l:IU):Ca:=l.map Nd.r
def jB(p:Nd×IU):Di:=[.agg p.1.r,.sl (Nd.rs p.2)]
def bu(G:G2):Ca:=G.map jB
theorem CW(m n:Nd):kp m.r n.r=decide (n=m):=by
 show(decide (m.k=n.k)&& (decide (m.a=n.a)&& (decide (m.b=n.b)&&true)))=_;rw[Bool.and_true,Bool.eq_iff_iff];simp only [xf,decide_eq_true_eq,Nd.eq_iff];constructor
 ·rintro⟨a,b,c⟩;exact⟨a.symm,b.symm,c.symm⟩
 ·rintro⟨a,b,c⟩;exact⟨a.symm,b.symm,c.symm⟩
theorem M2(m:Nd)(p:Nd×IU):kf m.r (jB p)=decide (p.1=m):=CW m p.1
def lU(m:Nd)(f:List Nd->List Nd)(G:G2):G2:=G.map fun p=>if p.1=m then(p.1,f p.2) else p
theorem wZ:∀{G:G2},cT m.r (bu G)=none->∀p∈G,p.1≠m
 |[],_,p,hp=>nomatch hp
 |q::G,h,p,hp=>by
  have h:(if kf m.r (jB q) then some 0 else(cT m.r (bu G)).map (· +1))=none:=h;rw[M2] at h;by_cases hq:q.1=m
  ·rw[u_ hq] at h;cases h
  ·rw[f_ hq,j_ Bool.noConfusion] at h;rcases xG.1 hp with rfl|hp
   ·exact hq
   ·exact wZ (Option.map_eq_none_iff.1 h) p hp
theorem Ix:∀{G:G2} {j:Nat},(G.map (·.1)).Nodup->cT m.r (bu G)=some j->∃v,G[j]? =some (m,v)/\∀f,G.set j (m,f v)=lU m f G
 |[],j,_,h=>nomatch h
 |q::G,j,hn,h=>by
  have h:(if kf m.r (jB q) then some 0 else(cT m.r (bu G)).map (· +1))=some j:=h;rw[M2] at h;have fL:=List.nodup_cons.1 hn;by_cases hq:q.1=m
  ·rw[u_ hq,i_ Y] at h;cases h;obtain⟨q1,q2⟩:=q;subst hq;refine⟨q2,rfl,fun f=> ?_⟩;show(q1,f q2)::G=(if q1=q1 then(q1,f q2) else(q1,q2))::lU q1 f G;rw[i_ Y]
   congr 1
   refine(List.map_congr_left (fun p hp=> ?_)).trans (List.map_id G)|>.symm
   exact j_ fun(e:p.1=q1)=>fL.1 (xJ.2 ⟨p,hp,e⟩)
  ·rw[f_ hq,j_ Bool.noConfusion] at h;obtain⟨i,e,rfl⟩:=xp.1 h;obtain⟨v,e1,e2⟩:=Ix fL.2 e;refine⟨v,e1,fun f=> ?_⟩;show q::G.set i (m,f v)=(if q.1=m then(q.1,f q.2) else q)::lU m f G;rw[j_ hq,e2 f]
theorem VJ(m:Nd)(f:List Nd->List Nd)(G:G2):(lU m f G).map (·.1)=G.map (·.1):=by
 unfold lU;rw[List.map_map];refine List.map_congr_left fun p _=> ?_
 show(if p.1=m then(p.1,f p.2) else p).1=p.1;split<;>rfl
def DY(m n:Nd)(G:G2):G2:=if(cT m.r (bu G)).isSome then lU m (· ++[n]) G else G++[(m,[n])]
abbrev KN:JI:=[.u8,.i64,.i64]
theorem Ve{p:Nd×IU}(h:G[j]? =some p):(bu G)[j]? =some (jB p):=by
 unfold bu;rw[xx,h];rfl
theorem YJ(hn:(G.map (·.1)).Nodup)(m n:Nd):∃rows v j,aF (.Cy KN) [.sl (bu G),.agg m.r]=some (.agg [.sl rows,.sl (Nd.rs v),jD j])/\(v=[]\/(m,v)∈G)/\aF .u4 [.sl rows,jD j,.sl (Nd.rs v++[n.r])]=some (.sl (bu (DY m n G))):=by
 unfold DY;cases h:cT m.r (bu G) with
 |none=>
  refine⟨bu G++[[D.agg m.r,eT]],[],G.length,?_,.inl Y,?_⟩
  ·show(match cT m.r (bu G) with|none=>some (D.agg [.sl (bu G++[[D.agg m.r,eT]]),.sl [],.int .i64 ((bu G).length:Nat)])|some j=>_)=_;rw[h];show some (D.agg [.sl (bu G++[[D.agg m.r,eT]]),.sl [],.int .i64 ((bu G).length:Nat)])=_;rw[show(bu G).length=G.length from xm _];rfl
  ·show(match(bu G++[[D.agg m.r,eT]])[G.length]? with|some [k,_]=>if(D.sl ([]++[n.r])).cell then some (D.sl ((bu G++[[D.agg m.r,eT]]).set G.length [k,.sl ([]++[n.r])])) else none|_=>none)=_;have hl:(bu G).length=G.length:=xm _;rw[xq MK,hl,Nat.sub_self];show some (D.sl ((bu G++[[D.agg m.r,eT]]).set G.length [.agg m.r,.sl [n.r]]))=some (D.sl (bu (G++[(m,[n])])));rw[<-hl,List.set_append_right _ _ (xk _),Nat.sub_self]
   congr 2
   unfold bu;rw[List.map_append];rfl
 |some j=>
  obtain⟨v,e1,e2⟩:=Ix hn h;have e3:=Ve e1;refine⟨(bu G).set j [D.agg m.r,eT],v,j,?_,?_,?_⟩
  ·show(match cT m.r (bu G) with|none=>_|some j=>match(bu G)[j]? with
    |some [_,.sl rs]=>some (D.agg [.sl ((bu G).set j [D.agg m.r,eT]),.sl rs,.int .i64 (j:Nat)])
    |_=>none)=_
   rw[h];show(match(bu G)[j]? with
    |some [_,.sl rs]=>some (D.agg [.sl ((bu G).set j [D.agg m.r,eT]),.sl rs,.int .i64 (j:Nat)])
    |_=>none)=_
   rw[e3];rfl
  ·exact .inr (xu e1)
  ·have hj:=(xe.1 e3).1;show(match((bu G).set j [D.agg m.r,eT])[j]? with|some [k,_]=>if(D.sl (Nd.rs v++[n.r])).cell then some (D.sl (((bu G).set j [D.agg m.r,eT]).set j [k,.sl (Nd.rs v++[n.r])])) else none|_=>none)=_;rw[List.getElem?_set_self hj];show some (D.sl (((bu G).set j [D.agg m.r,eT]).set j [.agg m.r,.sl (Nd.rs v++[n.r])]))=some (D.sl (bu (lU m (· ++[n]) G)));rw[List.set_set,<-e2]
   congr 2
   unfold bu;rw[List.map_set]
   congr 1
   show[D.agg m.r,D.sl (v.map Nd.r++[n.r])]=[D.agg m.r,D.sl ((v++[n]).map Nd.r)];rw[List.map_append];rfl
theorem X3(hn:(G.map (·.1)).Nodup)(m:Nd)(f:List Nd->List Nd):∃rows v,aF (.Cv KN) [.sl (bu G),.agg m.r]=some (.agg [.sl rows,.sl (Nd.rs v)])/\(v=[]\/(m,v)∈G)/\aF (.Cw KN) [.sl rows,.agg m.r,.sl (Nd.rs (f v))]=some (.sl (bu (lU m f G))):=by
 cases h:cT m.r (bu G) with
 |none=>
  have e:lU m f G=G:=(List.map_congr_left fun p hp=>j_ (wZ h p hp)).trans (List.map_id G);refine⟨bu G,[],?_,.inl Y,?_⟩
  ·show(match cT m.r (bu G) with|none=>some (D.agg [.sl (bu G),.sl []])|some j=>_)=_;rw[h];rfl
  ·show(match cT m.r (bu G) with|none=>some (D.sl (bu G))|some j=>_)=_;rw[h,e]
 |some j=>
  obtain⟨v,e1,e2⟩:=Ix hn h;have e3:=Ve e1;have hj:=(xe.1 e3).1;have e4:∀(v':D),cT m.r ((bu G).set j [D.agg m.r,v'])=some j:=fun v'=>by
   clear e3 e2 e1 hn
   induction G generalizing j with
   |nil=>cases h
   |cons q G ih=>
    have h:(if kf m.r (jB q) then some 0 else(cT m.r (bu G)).map (· +1))=some j:=h;by_cases hq:kf m.r (jB q)=true
    ·rw[i_ hq] at h;cases h;show(if kp m.r m.r=true then some 0 else _)=some 0;rw[CW,u_ rfl,i_ Y]
    ·rw[j_ hq] at h;obtain⟨i,e,rfl⟩:=xp.1 h;show(if kf m.r (jB q) then some 0 else(cT m.r ((bu G).set i [D.agg m.r,v'])).map (· +1))=_;rw[j_ hq,ih _ e (Nat.lt_of_succ_lt_succ hj)];rfl
  refine⟨(bu G).set j [D.agg m.r,eT],v,?_,.inr (xu e1),?_⟩
  ·show(match cT m.r (bu G) with|none=>_|some j=>match(bu G)[j]? with
    |some [_,.sl rs]=>some (D.agg [.sl ((bu G).set j [D.agg m.r,eT]),.sl rs])
    |_=>none)=_
   rw[h];show(match(bu G)[j]? with
    |some [_,.sl rs]=>some (D.agg [.sl ((bu G).set j [D.agg m.r,eT]),.sl rs])
    |_=>none)=_
   rw[e3];rfl
  ·show(match cT m.r ((bu G).set j [D.agg m.r,eT]) with|none=>_|some j'=>match((bu G).set j [D.agg m.r,eT])[j']? with
    |some [_,.o6]=>some (D.sl (((bu G).set j [D.agg m.r,eT]).set j' [D.agg m.r,.sl (Nd.rs (f v))]))
    |_=>none)=_
   rw[e4];show(match((bu G).set j [D.agg m.r,eT])[j]? with
    |some [_,.o6]=>some (D.sl (((bu G).set j [D.agg m.r,eT]).set j [D.agg m.r,.sl (Nd.rs (f v))]))
    |_=>none)=_
   rw[List.getElem?_set_self hj];show some (D.sl (((bu G).set j [D.agg m.r,eT]).set j [D.agg m.r,.sl (Nd.rs (f v))]))=_;rw[List.set_set,<-e2]
   congr 2
   unfold bu;rw[List.map_set];rfl
def tg(k:Nd)(es:Hj):IU:=(es.filter fun e=>decide (e.1=k)).map (·.2)
def C8(es:Hj):IU:=B0 (gW (es.map (·.1)))
def nx(es:Hj):Ca:=sD (bu ((C8 es).map fun k=>(k,gW (tg k es))))
theorem Xg{ae:Hj}(h:es.Perm ae):nx es=nx ae:=by
 have e1:C8 es=C8 ae:=by unfold C8;rw[IF (h.map _)]
 have e2:∀k,gW (tg k es)=gW (tg k ae):=fun k=>IF ((h.filter _).map _)
 unfold nx;rw[e1];simp only [e2]
theorem Xm(p q:Nd×IU):L3 (jB p) (jB q)=aA p.1 q.1:=by
 show(decide (p.1.k<q.1.k)||(decide (p.1.k=q.1.k)&& (decide (p.1.a<q.1.a)||(decide (p.1.a=q.1.a)&& (decide (p.1.b<q.1.b)||(decide (p.1.b=q.1.b)&&false))))))=_;unfold aA;rw[Bool.eq_iff_iff];simp only [Bool.or_eq_true,xf,decide_eq_true_eq,Bool.and_false,Bool.false_eq_true,or_false]
theorem Xq:∀{G:G2},(G.map (·.1)).Nodup->∀{p q:Nd×IU},p∈G->q∈G->p.1=q.1->p=q
 |[],_,_,_,h,_,_=>nomatch h
 |x::G,hn,p,q,hp,hq,e=>by
  have fL:=List.nodup_cons.1 hn;rcases xG.1 hp with rfl|hp<;>rcases xG.1 hq with rfl|hq
  ·rfl
  ·exact absurd (xJ.2 ⟨q,‹q∈G›,e.symm⟩:p.1∈G.map (·.1)) fL.1
  ·exact absurd (xJ.2 ⟨p,‹p∈G›,e⟩:q.1∈G.map (·.1)) fL.1
  ·exact Xq fL.2 hp hq e
theorem ND(G:G2):∃H:G2,H.Perm G/\sD (bu G)=bu H/\H.Pairwise fun x y=>aA y.1 x.1=false:=by
 induction G with
 |nil=>exact⟨[],.refl _,rfl,.nil⟩
 |cons p G ih=>
  obtain⟨H,h1,h2,h3⟩:=ih;have ins:∀(H:G2),(H.Pairwise fun x y=>aA y.1 x.1=false)->∃H':G2,H'.Perm (p::H)/\yG (jB p) (bu H)=bu H'/\H'.Pairwise fun x y=>aA y.1 x.1=false:=by
   intro H
   induction H with
   |nil=>exact fun _=>⟨[p],.refl _,rfl,.cons (fun _ h=>nomatch h) .nil⟩
   |cons q H ih=>
    intro hs;have jZ:=List.pairwise_cons.1 hs;cases hl:aA p.1 q.1 with
    |true=>
     refine⟨p::q::H,.refl _,?_,?_⟩
     ·show(if L3 (jB p) (jB q) then jB p::jB q::bu H else jB q::yG (jB p) (bu H))=_;rw[Xm,hl];rfl
     ·refine List.pairwise_cons.2 ⟨fun y hy=> ?_,hs⟩;rcases xG.1 hy with rfl|hy
      ·exact qp.asymmA hl
      ·cases hz:aA y.1 p.1 with
       |false=>rfl
       |true=>have:=qp.trans _ _ _ hz hl;rw[jZ.1 y hy] at this;cases this
    |false=>
     obtain⟨H',k1,k2,k3⟩:=ih jZ.2;refine⟨q::H',(k1.cons q).trans (.swap p q H),?_,?_⟩
     ·show(if L3 (jB p) (jB q) then jB p::jB q::bu H else jB q::yG (jB p) (bu H))=_;rw[Xm,hl,k2];rfl
     ·refine List.pairwise_cons.2 ⟨fun y hy=> ?_,k3⟩;rcases xG.1 (k1.mem_iff.1 hy) with rfl|hy
      ·exact hl
      ·exact jZ.1 y hy
  obtain⟨H',k1,k2,k3⟩:=ins H h3;exact⟨H',k1.trans (h1.cons p),by show yG (jB p) (sD (bu G))=_;rw[h2,k2],k3⟩
theorem aT2{G':G2}(hp:G.Perm G')(hn:(G.map (·.1)).Nodup):sD (bu G)=sD (bu G'):=by
 obtain⟨H,a1,a2,a3⟩:=ND G;obtain⟨H',b1,b2,b3⟩:=ND G';rw[a2,b2]
 congr 1
 refine List.Perm.eq_of_pairwise (le:=fun x y:Nd×IU=>aA y.1 x.1=false) (fun x y hx hy h1 h2=> ?_) a3 b3 (a1.trans (hp.trans b1.symm));have e:=We h2 h1;have hx:=a1.mem_iff.1 hx;have hy:=hp.mem_iff.2 (b1.mem_iff.1 hy);exact Xq hn hx hy e
structure GI (es:Hj) (G:G2):Prop where
 nd:(G.map (·.1)).Nodup
 v:∀p∈G,p.2=tg p.1 es
 k:∀m,m∈G.map (·.1)↔m∈es.map (·.1)
theorem I5(k m n:Nd)(es:Hj):tg k (es++[(m,n)])=if m=k then tg k es++[n] else tg k es:=by
 unfold tg;rw[List.filter_append,List.map_append];by_cases h:m=k
 ·rw[i_ h,List.filter_cons_of_pos (by exact u_ h)];rfl
 ·rw[j_ h,List.filter_cons_of_neg (by simpa using h)];exact xj _
theorem aL2{k:Nd}(h:k∉es.map (·.1)):tg k es=[]:=by
 unfold tg;rw[List.filter_eq_nil_iff.2 fun e he=>by simp only [decide_eq_true_eq];exact fun e1=>h (xJ.2 ⟨e,he,e1⟩)];rfl
theorem J6(k:Nd)(es:Hj):(tg k es).length<=es.length:=by
 unfold tg;rw[xm];exact List.length_filter_le _ _
theorem GI.add(h:GI es G)(m n:Nd):GI (es++[(m,n)]) (DY m n G):=by
 unfold DY;cases hk:cT m.r (bu G) with
 |none=>
  have hm:=wZ hk;have wz:m∉G.map (·.1):=fun h1=>by obtain⟨p,h2,h3⟩:=xJ.1 h1;exact hm p h2 h3
  refine⟨?_,fun p hp=> ?_,fun x=> ?_⟩
  ·show((G++[(m,[n])]).map (·.1)).Nodup;rw[List.map_append];exact List.nodup_append.2 ⟨h.nd,NS,fun a ha b hb e=>wz (by have e2:b=m:=xy.1 hb;rw[<-e2,<-e];exact ha)⟩
  ·rcases xF.1 hp with hp|hp
   ·rw[I5,j_ (fun e=>hm p hp e.symm)];exact h.v p hp
   ·rw[xy.1 hp,I5,i_ Y,aL2 (fun h1=>wz ((h.k m).2 h1))];rfl
  ·show x∈(G++[(m,[n])]).map (·.1)↔_;rw[List.map_append,List.map_append,xF,xF,h.k];rfl
 |some j=>
  obtain⟨v,e1,_⟩:=Ix h.nd hk;have hm:m∈es.map (·.1):=(h.k m).1 (xJ.2 ⟨_,xu e1,rfl⟩);refine⟨?_,fun p hp=> ?_,fun x=> ?_⟩
  ·show((lU m (· ++[n]) G).map (·.1)).Nodup;rw[VJ];exact h.nd
  ·obtain⟨q,hq,rfl⟩:=xJ.1 (show p∈lU m (· ++[n]) G from hp);by_cases e:q.1=m
   ·rw[i_ e];show q.2++[n]=tg q.1 _;rw[I5,i_ e.symm,<-h.v q hq]
   ·rw[j_ e,I5,j_ (fun e2=>e e2.symm)];exact h.v q hq
  ·show x∈(lU m (· ++[n]) G).map (·.1)↔_;rw[VJ,h.k,List.map_append,xF];refine⟨.inl,fun h1=>h1.elim id fun h2=> ?_⟩;rw[xy.1 h2];exact hm
def oh(S:IU)(G:G2):G2:=G.map fun p=>if p.1∈S then(p.1,gW p.2) else p
theorem aC9(S:IU)(G:G2):(oh S G).map (·.1)=G.map (·.1):=by
 unfold oh;rw[List.map_map];refine List.map_congr_left fun p _=> ?_
 show(if p.1∈S then(p.1,gW p.2) else p).1=p.1;split<;>rfl
theorem aC8(S:IU)(n:Nd)(G:G2):lU n gW (oh S G)=oh (S++[n]) G:=by
 unfold lU oh;rw[List.map_map];refine List.map_congr_left fun p _=> ?_
 obtain⟨k,v⟩:=p;by_cases h:k∈S<;>by_cases e:k=n<;>simp_all [aL7]
theorem GI.nx(h:GI es G){S:IU}(hS:∀e∈es,e.1∈S):sD (bu (oh S G))=nx es:=by
 have hG:oh S G=G.map fun p=>(p.1,gW (tg p.1 es)):=by
  refine List.map_congr_left fun p hp=> ?_
  obtain⟨e,he,e1⟩:=xJ.1 ((h.k p.1).1 (List.mem_map_of_mem hp));rw[i_ (by rw[<-e1];exact hS e he),h.v p hp]
 have hn:=h.nd;rw[hG];refine aT2 ?_ (by rw[List.map_map];exact hn);have e2:G.map (fun p=>(p.1,gW (tg p.1 es)))=(G.map (·.1)).map fun k=>(k,gW (tg k es)):=by rw[List.map_map];rfl
 rw[e2];refine List.Perm.map _ ((List.perm_ext_iff_of_nodup hn (Pm _)).2 fun a=> ?_);rw[h.k,FA,(oN _).mem_iff]
theorem VT(h:GI es G){S:IU}{v:IU}(hv:v=[]\/(m,v)∈oh S G):v.length<=es.length:=by
 rcases hv with rfl|hv
 ·exact xL _
 ·obtain⟨p,hp,e⟩:=xJ.1 hv;have hl:=J6 p.1 es;rw[<-h.v p hp] at hl;split at e<;>cases e
  ·rw[(oN p.2).length_eq];exact hl
  ·exact hl
section
theorem NN(h:l.length<=1000000):Rn F X 179 0 [.sl (Nd.rs l)] (·=[.sl (Nd.rs (gW l))]):=aL8 (d:=l.toArray) h
theorem gr7{S:IU}{ae:Hj}{G':G2}(h1:GI es G)(h2:GI ae G')(hS:∀e∈es,e.1∈S)(TI:∀e∈ae,e.1∈S)(b1:es.length<=1000000)(b2:ae.length<=1000000)(b3:S.length<=1000000):
 ∀(k i:Nat),i+k=S.length->Rn F X 165 7 [.sl (Nd.rs S),jD S.length,jD i,.sl (bu (oh (S.take i) G)),.sl (bu (oh (S.take i) G'))] (·=[.sl (Nd.rs S),.sl (nx es),.sl (nx ae)])
 |0,i,hi=>by
  refine wr Y<|Wp.qQ Y (by rw[af,f_ MK]) ?_;have fS:∀G:G2,(bu G).all P5=true:=fun G=>by
   rw[List.all_eq_true];intro r hr;obtain⟨p,_,rfl⟩:=xJ.1 hr;rfl
  rw[List.take_of_length_le MK];have e1:∀G:G2,aF .Cz [.sl (bu (oh S G))]=some (.sl (sD (bu (oh S G)))):=fun G=>by
   show(if(bu (oh S G)).all P5 then some (D.sl (sD (bu (oh S G)))) else none)=_;rw[fS];rfl
  refine wg 1 Y<|wo Y (e1 G)<|wg 1 Y<|wo Y (e1 G')<|wt Y ?_;rw[h1.nx hS,h2.nx TI]
 |k+1,i,hi=>by
  have nT:i<S.length:=MK
  refine wr Y<|Wp.nz Y (by rw[af,u_ MK]) ?_;have hz:(Nd.rs S)[i]? =some S[i].r:=by
   show(S.map Nd.r)[i]? =_;rw[xx,xc nT];rfl
  have a1:aF .iO [.sl (Nd.rs S),jD i]=some (.bool true):=by
   show some (D.bool (decide (i<(S.map Nd.r).length)))=_;rw[xm,u_ nT]
  have a2:aF (.pD 0 3 true) [.sl (Nd.rs S),jD i]=some (.agg S[i].r):=by
   show((Nd.rs S)[i]?).bind (fun r=>yd r 0 3 true)=_;rw[hz];rfl
  have dw:∀{es G},GI es G->((oh (S.take i) G).map (·.1)).Nodup:=fun h=>by rw[aC9];exact h.nd
  obtain⟨r1,v1,k1,k2,k3⟩:=X3 (dw h1) S[i] gW;obtain⟨r2,v2,l1,l2,l3⟩:=X3 (dw h2) S[i] gW;rw[aC8,<-List.take_succ_eq_append_getElem nT] at k3 l3;have s1:=VT h1 k2;have s2:=VT h2 l2;refine Wp.nz Y a1<|o_ Y a2 rfl<|o_ Y k1 rfl<|wl Y (NN MK) rfl ?_;dsimp only [c_,n_];refine o_ Y l1 rfl<|wl Y (NN MK) rfl ?_;dsimp only [c_,n_];refine wo Y (bg (a:=i) (b:=1) MK)<|wg 1 Y<|wo Y k3<|wg 1 Y<|wo Y l3<|b_ Y ?_;exact gr7 h1 h2 hS TI b1 b2 b3 k (i+1) MK
end
end Go.Proofs.YthicpeihkkokmaaGreatDoor
