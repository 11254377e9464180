/- What these functions answer. -/
import Derived.Test.YthicpeihkkokmaaGreatDoorT0
import Derived.Test.YthicpeihkkokmaaGreatDoorA0
import Derived.Sort.AssemblyPlain
set_option linter.unusedVariables false
set_option linter.unusedSimpArgs false
set_option maxHeartbeats 4000000
set_option maxRecDepth 100000
namespace Go.Proofs.YthicpeihkkokmaaGreatDoor
theorem _root_.Go.Y{α:Sort _}{a:α}:a=a:=rfl
theorem _root_.Go.i_{c:Prop}{h:Decidable c}(k:c){α:Sort _}{t e:α}:(if c then t else e)=t:=if_pos k
theorem _root_.Go.j_{c:Prop}{h:Decidable c}(k:¬c){α:Sort _}{t e:α}:(if c then t else e)=e:=if_neg k
theorem _root_.Go.f_{p:Prop}[Decidable p](h:¬p):decide p=false:=decide_eq_false h
theorem _root_.Go.u_{p:Prop}[Decidable p](h:p):decide p=true:=decide_eq_true h
theorem _root_.Go.c_{α:Type _}{a:α}{l m:List α}:a::l++m=a::(l++m):=rfl
theorem _root_.Go.n_{α:Type _}{l:List α}:[]++l=l:=rfl
open Go.Ex Go.RowKit
open Go.Ex Go.RowKit Go.Sort
theorem _root_.Go.a_{α:Type _}(a b c:List α):a++b++c=a++(b++c):=List.append_assoc a b c
abbrev _root_.Go.b_:=@Wp.jump
abbrev _root_.Go.d_:=@Wp.aG
abbrev _root_.Go.e_:=@Wp.op
variable{c j f a b k n p h' fh:Nat}{X:a0a}{env xs:a0d}{Q:a0d->Prop}{args:a0e}{t:DT}
structure Nd where
 k:Int
 a:Int
 b:Int
abbrev a0v:=Array Nd
variable{d d4:a0v}
abbrev a0m:=List Nd
abbrev a0i:=List (Nd×Nd)
instance:Inhabited Nd:=⟨⟨0,0,0⟩⟩
abbrev Nd.r(n:Nd):a0d:=[.int .u8 n.k,.int .i64 n.a,.int .i64 n.b]
def ba(d:a0v):a0b:=d.toList.map Nd.r
def aC(x y:Nd):Bool:=decide (x.k<y.k\/x.k=y.k/\(x.a<y.a\/x.a=y.a/\x.b<y.b))
abbrev iD9(n:Int):D:= .int .i64 n
def qX(a b:Int):Int:=if a<b then -1 else if b<a then 1 else 0
theorem Yc(d:a0v):(ba d).length=d.size:=by simp[ba]
theorem Yd{i:Nat}(h:i<d.size):(ba d)[i]? =some (d[i]!).r:=by
 unfold ba;rw[xx,Array.getElem?_toList,Array.getElem?_eq_getElem h,getElem!_pos d i h];rfl
theorem G1{i:Nat}(h:i<d.size):aL .jf [.sl (ba d),jD i]=some (.bool true):=by
 show some (D.bool (decide (i<(ba d).length)))=_;rw[Yc,u_ h]
theorem Qw{i:Nat}(h:i<d.size):aL (.qK 0 3 true) [.sl (ba d),jD i]=some (.agg (d[i]!).r):=by
 show((ba d)[i]?).bind (fun r=>yX r 0 3 true)=_;rw[Yd h];rfl
theorem Zp{i:Nat}{x:Nd}(h:i<d.size):aL (.ky 0) (.sl (ba d)::jD i::x.r)=some (.sl (ba (d.setIfInBounds i x))):=by
 show((ba d)[i]?).bind (fun r=>if 0+(x.r).length<=r.length then some (D.sl ((ba d).set i (r.take 0++x.r++r.drop (0+(x.r).length)))) else none)=_;rw[Yd h];show some (D.sl ((ba d).set i x.r))=_
 congr 2
 unfold ba;rw[Array.toList_setIfInBounds,List.map_set]
theorem po(h:j<9223372036854775807):aL (.bin .sub c) [jD (j+1),jD 1]=some (jD j):=eW (a:=j+1) (b:=1) a0B a0B
section
theorem W.ld{i:Nat}(h1:aI (bR (lk env)) args=some [.sl (ba d),jD i])(hi:i<d.size)(hw:Wp F X f t (env++(d[i]!).r) Q):Wp F X f (.br .jf args (.aV (.qK 0 3 true) args [no,no,no] t .stop) .stop) env Q:=
 Wp.nV h1 (G1 hi) (Wp.aV h1 (Qw hi) rfl hw)
theorem W.sw{a1 a2 b1 b2:a0e}{i:Nat}(h1:aI (bR (lk env)) a1=some [.sl (ba d),jD i])(h2:aI (bR (lk env)) b1=some (.sl (ba d)::jD i::(d[j]!).r))(h3:aI (bR (lk (env++[.sl (ba (d.setIfInBounds i d[j]!))]))) a2=some [.sl (ba d),jD j])
 (h4:aI (bR (lk (env++[.sl (ba (d.setIfInBounds i d[j]!))]))) b2=some (.sl (ba (d.setIfInBounds i d[j]!))::jD j::(d[i]!).r)) (hi:i<d.size) (hj:j<d.size) (hw:Wp F X f t (env++[.sl (ba (d.setIfInBounds i d[j]!)),.sl (ba (swp d i j))]) Q):
 Wp F X f (.br .jf a1 (.op (.ky 0) b1 (.br .jf a2 (.op (.ky 0) b2 t) .stop)) .stop) env Q:=by
 refine Wp.nV h1 (G1 hi)<|Wp.op h2 (Zp hi) rfl<|Wp.nV h3 (G1 hj)<|Wp.op h4 (Zp (by rw[Array.size_setIfInBounds];exact hj)) rfl ?_;rw[a_];exact hw
theorem bc2{a b:Int}:Rn F X 130 0 [.int .u8 a,.int .u8 b] (·=[iD9 (qX a b)]):=by
 refine wr Y<|Wp.dF Y gP a0C<|Wp.dF Y gP a0C ?_;unfold qX;refine d_ Y ai ?_ ?_<;>intro h
 ·rw[i_ h];exact wt Y Y
 ·rw[j_ h];refine d_ Y cg ?_ ?_<;>intro h
  ·rw[i_ h];exact wt Y Y
  ·rw[j_ h];exact wt Y Y
theorem YZ{a b:Int}:Rn F X 131 0 [iD9 a,iD9 b] (·=[iD9 (qX a b)]):=by
 refine wr Y<|Wp.dF Y gP a0C<|Wp.dF Y gP a0C ?_;unfold qX;refine d_ Y ai ?_ ?_<;>intro h
 ·rw[i_ h];exact wt Y Y
 ·rw[j_ h];refine d_ Y cg ?_ ?_<;>intro h
  ·rw[i_ h];exact wt Y Y
  ·rw[j_ h];exact wt Y Y
def wV(x y:Nd):Int:=if qX x.k y.k≠0 then qX x.k y.k else if qX x.a y.a≠0 then qX x.a y.a else qX x.b y.b
theorem YY(x y:Nd):decide (wV x y<0)=aC x y:=by
 unfold wV aC;refine decide_eq_decide.2 ?_;have h1:∀a b:Int,(qX a b<0↔a<b)/\(qX a b≠0↔a≠b):=fun a b=>by
  unfold qX;split
  ·omega
  ·split<;>omega
 have:=h1 x.k y.k;have:=h1 x.a y.a;have:=h1 x.b y.b;split
 ·omega
 ·split<;>omega
theorem bp0{x y:Nd}:Rn F X 132 0 (x.r++y.r) (·=[iD9 (wV x y)]):=by
 refine wr Y<|wl Y bc2 rfl<|wl Y YZ rfl<|wl Y YZ rfl ?_;unfold wV;refine d_ Y gP ?_ ?_<;>intro h
 ·rw[i_ h];exact wt Y Y
 ·rw[j_ h];refine d_ Y gP ?_ ?_<;>intro h
  ·rw[i_ h];exact wt Y Y
  ·rw[j_ h];refine d_ Y gP ?_ ?_<;>intro h
   ·exact wt Y Y
   ·exact wt Y (by rw[show qX x.b y.b=0 by omega])
theorem W.lt{g:Nat}{us:a0e}{e:DT}{x y:Nd}{nd:Ex.Node}(h1:aI (aZ (lk env)) us=some (x.r++y.r))(h2:aI (bR (lk (env++[iD9 (wV x y)]))) args=some [iD9 (wV x y),iD9 0])(ht:aC x y=true->Wp F X f t (env++[iD9 (wV x y)]) Q)(he:aC x y=false->Wp F X f e (env++[iD9 (wV x y)]) Q):
 Wp F X f (.note nd (.call g 132 us [no] (.br (.bin .lss 0) args t e) .stop)) env Q:=by
 refine wg 1 Y<|Wp.jU h1 bp0 rfl<|Wp.aG h2 ai (fun h=>ht ?_) (fun h=>he ?_)
 ·rw[<-YY];exact u_ h
 ·rw[<-YY];exact f_ h
theorem ai9(a b i:Nat)(hi:i<9000000):∀(j:Nat) (d:a0v),j<d.size->d.size<=1000000->Rn F X 166 1 [.sl (ba (insInner aC a j d)),jD a,jD b,jD (i+1)] Q->Rn F X 166 2 [.sl (ba d),jD a,jD b,jD i,jD j] Q
 |0,d,hj,hd,H=>by
  exact wr Y<|wn Y cg<|wo Y (bm (a:=i) (b:=1) a0B)<|wj H
 |j+1,d,hj,hd,H=>by
  refine wr Y ?_;unfold insInner at H;refine d_ Y cg ?_ ?_<;>intro h
  ·refine W.ld Y hj ?_;refine wo Y (po (j:=j) a0B) ?_;refine W.ld Y (show j<d.size by omega) ?_;have ha:decide (j+1>a)=true:=u_ a0B;refine W.lt Y Y (fun h2=> ?_) (fun h2=> ?_)
   ·rw[i_ (by rw[ha,h2];rfl)] at H;refine wo Y (po (j:=j) a0B)<|wo Y (po (j:=j) a0B) ?_;refine W.ld Y (show j<d.size by omega) ?_;refine W.ld Y hj ?_;refine W.sw Y Y Y Y hj (show j<d.size by omega) ?_;exact wo Y (po (j:=j) a0B)<|b_ Y (ai9 a b i hi j _ (by rw[size_swp];omega) (by rw[size_swp];exact hd) H)
   ·rw[j_ (by rw[h2];simp)] at H;exact wo Y (bm (a:=i) (b:=1) a0B)<|wj H
  ·rw[j_ a0F] at H;exact wo Y (bm (a:=i) (b:=1) a0B)<|wj H
end
theorem NW(a:Nat):∀(j:Nat) (d:a0v),(insInner aC a j d).size=d.size
 |0,d=>rfl
 |j+1,d=>by
  unfold insInner;split
  ·rw[NW a j,size_swp]
  ·rfl
section
theorem bC5(a b:Nat):∀(n i:Nat) (d:a0v),b - i<=n->b<=d.size->d.size<=1000000->Rn F X 166 1 [.sl (ba d),jD a,jD b,jD i] (·=[.sl (ba (insOuter aC a b i d))]):=by
 intro n
 induction n with
 |zero=>
  intro i d hn hb hd;refine wr Y ?_;unfold insOuter;rw[j_ a0B];exact wn Y ai<|wt Y Y
 |succ n ih=>
  intro i d hn hb hd;refine wr Y ?_;unfold insOuter;by_cases h:i<b
  ·rw[i_ h];refine wy Y ai<|b_ Y ?_;exact ai9 a b i a0B i d a0B hd (ih (i+1) _ a0B (by rw[NW];exact hb) (by rw[NW];exact hd))
  ·rw[j_ h];exact wn Y ai<|wt Y Y
theorem bj0(hb:b<=d.size)(hd:d.size<=1000000)(ha:a<=1000000):Rn F X 166 0 [.sl (ba d),jD a,jD b] (·=[.sl (ba (insertionSort aC d a b))]):=by
 exact wr Y<|wo Y (bm (a:=a) (b:=1) a0B)<|b_ Y (bC5 a b _ (a+1) d (xk _) hb hd)
theorem VB(hi first:Nat):∀(n root:Nat) (d:a0v),hi - root<=n->(siftDown aC hi first root d).size=d.size:=by
 intro n
 induction n with
 |zero=>
  intro root d hn;unfold siftDown;rw[dif_pos a0B]
 |succ n ih=>
  intro root d hn;unfold siftDown;split
  ·rfl
  ·split
   ·split
    ·rfl
    ·split
     ·rw[ih _ _ a0B,size_swp]
     ·rfl
   ·split
    ·rfl
    ·rw[ih _ _ a0B,size_swp]
theorem br8(hi first:Nat):∀(n root:Nat) (d:a0v),hi - root<=n->root<=1000000->first+hi<=d.size->d.size<=1000000->Rn F X 167 1 [.sl (ba d),jD hi,jD first,jD root] (·=[.sl (ba (siftDown aC hi first root d))]):=by
 intro n
 induction n with
 |zero=>
  intro root d hn hr hs hd;refine wr Y ?_;unfold siftDown;rw[dif_pos a0B];exact wo Y (uA (a:=2) (b:=root) a0B)<|wo Y (bm (a:=2*root) (b:=1) a0B)<|wy Y fp<|wt Y Y
 |succ n ih=>
  intro root d hn hr hs hd;refine wr Y ?_;unfold siftDown;refine wo Y (uA (a:=2) (b:=root) a0B)<|wo Y (bm (a:=2*root) (b:=1) a0B) ?_;by_cases h:2*root+1≥hi
  ·rw[dif_pos h];exact wy Y fp<|wt Y Y
  rw[dif_neg h];refine wn Y fp<|wo Y (bm (a:=2*root+1) (b:=1) a0B) ?_;by_cases h1:2*root+1+1<hi
  ·refine wy Y ai<|wo Y (bm (a:=first) (b:=2*root+1) a0B) ?_;refine W.ld Y a0B ?_;dsimp only [Nd.r,c_,n_];refine wo Y (bm (a:=first) (b:=2*root+1) a0B)<|wo Y (bm (a:=first+(2*root+1)) (b:=1) a0B) ?_;refine W.ld Y a0B ?_;dsimp only [Nd.r,c_,n_];refine W.lt Y Y (fun h2=> ?_) (fun h2=> ?_)
   ·rw[i_ (by rw[u_ h1,h2];rfl)];refine wo Y (bm (a:=2*root+1) (b:=1) a0B)<|wo Y (bm (a:=first) (b:=root) a0B) ?_;refine W.ld Y a0B ?_;dsimp only [Nd.r,c_,n_];refine wo Y (bm (a:=first) (b:=2*root+1+1) a0B) ?_;refine W.ld Y a0B ?_;dsimp only [Nd.r,c_,n_];refine W.lt Y Y (fun h3=> ?_) (fun h3=> ?_)
    ·have Av:aC d[first+root]! d[first+(2*root+2)]! =true:=h3;rw[j_ (by rw[Av];simp),dif_pos a0B];refine wo Y (bm (a:=first) (b:=root) a0B)<|wo Y (bm (a:=first) (b:=2*root+1+1) a0B)<|wo Y (bm (a:=first) (b:=2*root+1+1) a0B) ?_;refine W.ld Y a0B ?_;dsimp only [Nd.r,c_,n_];refine wo Y (bm (a:=first) (b:=root) a0B) ?_;refine W.ld Y a0B ?_;dsimp only [Nd.r,c_,n_];refine W.sw Y Y Y Y a0B a0B ?_;dsimp only [Nd.r,c_,n_];exact b_ Y (ih (2*root+2) _ a0B a0B (by rw[size_swp];exact hs) (by rw[size_swp];exact hd))
    ·have Av:aC d[first+root]! d[first+(2*root+2)]! =false:=h3;rw[i_ (by rw[Av];rfl)];exact wt Y Y
   ·rw[j_ (by rw[h2];simp)];refine wo Y (bm (a:=first) (b:=root) a0B) ?_;refine W.ld Y a0B ?_;dsimp only [Nd.r,c_,n_];refine wo Y (bm (a:=first) (b:=2*root+1) a0B) ?_;refine W.ld Y a0B ?_;dsimp only [Nd.r,c_,n_];refine W.lt Y Y (fun h3=> ?_) (fun h3=> ?_)
    ·rw[j_ (by rw[h3];simp)];refine wo Y (bm (a:=first) (b:=root) a0B)<|wo Y (bm (a:=first) (b:=2*root+1) a0B)<|wo Y (bm (a:=first) (b:=2*root+1) a0B) ?_;refine W.ld Y a0B ?_;dsimp only [Nd.r,c_,n_];refine wo Y (bm (a:=first) (b:=root) a0B) ?_;refine W.ld Y a0B ?_;dsimp only [Nd.r,c_,n_];refine W.sw Y Y Y Y a0B a0B ?_;dsimp only [Nd.r,c_,n_];exact b_ Y (ih (2*root+1) _ a0B a0B (by rw[size_swp];exact hs) (by rw[size_swp];exact hd))
    ·rw[i_ (by rw[h3];rfl)];exact wt Y Y
  ·refine wn Y ai ?_;rw[j_ (by rw[f_ h1];simp)];refine wo Y (bm (a:=first) (b:=root) a0B) ?_;refine W.ld Y a0B ?_;dsimp only [Nd.r,c_,n_];refine wo Y (bm (a:=first) (b:=2*root+1) a0B) ?_;refine W.ld Y a0B ?_;dsimp only [Nd.r,c_,n_];refine W.lt Y Y (fun h3=> ?_) (fun h3=> ?_)
   ·rw[j_ (by rw[h3];simp)];refine wo Y (bm (a:=first) (b:=root) a0B)<|wo Y (bm (a:=first) (b:=2*root+1) a0B)<|wo Y (bm (a:=first) (b:=2*root+1) a0B) ?_;refine W.ld Y a0B ?_;dsimp only [Nd.r,c_,n_];refine wo Y (bm (a:=first) (b:=root) a0B) ?_;refine W.ld Y a0B ?_;dsimp only [Nd.r,c_,n_];refine W.sw Y Y Y Y a0B a0B ?_;dsimp only [Nd.r,c_,n_];exact b_ Y (ih (2*root+1) _ a0B a0B (by rw[size_swp];exact hs) (by rw[size_swp];exact hd))
   ·rw[i_ (by rw[h3];rfl)];exact wt Y Y
theorem X7{hi first root:Nat}(hr:root<=1000000)(hs:first+hi<=d.size)(hd:d.size<=1000000):Rn F X 167 0 [.sl (ba d),jD root,jD hi,jD first] (·=[.sl (ba (siftDown aC hi first root d))]):=by
 exact wr Y<|b_ Y (br8 hi first _ root d (xk _) hr hs hd)
def iK:Nat->D|0=>iD9 (-1)|k+1=>jD k
theorem PW(k:Nat):(iK k).cell=true:=by cases k<;>rfl
theorem PH(h:k<1000000000):aL (.bin .sub c) [jD k,jD 1]=some (iK k):=by
 cases k with
 |zero=>rfl
 |succ k=>exact po a0B
theorem ac7(a:Nat):∀(k:Nat) (d:a0v),a+k<=d.size->d.size<=1000000->Rn F X 168 2 [.sl (ba d),jD a,iK k] (·=[.sl (ba (heapPop aC a k d))])
 |0,d,hs,hd=>by
  exact wr Y<|wn Y (fp (a:= -1) (b:=0))<|wt Y Y
 |k+1,d,hs,hd=>by
  refine wr Y<|wy Y (fp (a:=(k:Nat)) (b:=0))<|wo Y (bm (a:=a) (b:=k) a0B)<|wo Y (bm (a:=a) (b:=k) a0B) ?_;refine W.ld Y a0B ?_;dsimp only [Nd.r,c_,n_];refine W.ld Y a0B ?_;dsimp only [Nd.r,c_,n_];refine W.sw Y Y Y Y a0B a0B ?_;dsimp only [Nd.r,c_,n_];refine wl Y (X7 (hi:=k) (first:=a) (root:=0) (d:=swp d a (a+k)) a0B (by rw[size_swp];omega) (by rw[size_swp];exact hd)) rfl<|e_ Y (PH (k:=k) a0B) (PW _) ?_;have aS:(siftDown aC k a 0 (swp d a (a+k))).size=d.size:=by rw[VB k a k 0 _ a0B,size_swp]
  refine Wp.jump ?_ (ac7 a k _ (by rw[aS];omega) (by rw[aS];exact hd));cases k<;>rfl
theorem ac8(a hi:Nat):∀(k:Nat) (d:a0v),k<=hi+1->a+hi<=d.size->d.size<=1000000->Rn F X 168 1 [.sl (ba d),jD a,jD hi,iK k] (·=[.sl (ba (heapPop aC a hi (heapBuild aC hi a k d)))])
 |0,d,hk,hs,hd=>by
  refine wr Y<|wn Y (fp (a:= -1) (b:=0))<|e_ Y (PH (k:=hi) a0B) (PW _)<|Wp.jump ?_ (ac7 a hi d hs hd);cases hi<;>rfl
 |k+1,d,hk,hs,hd=>by
  refine wr Y<|wy Y (fp (a:=(k:Nat)) (b:=0))<|wl Y (X7 (hi:=hi) (first:=a) (root:=k) (d:=d) a0B hs hd) rfl<|e_ Y (PH (k:=k) a0B) (PW _) ?_;have aS:(siftDown aC hi a k d).size=d.size:=VB hi a _ k _ (xk _);refine Wp.jump ?_ (ac8 a hi k _ a0B (by rw[aS];exact hs) (by rw[aS];exact hd));cases k<;>rfl
theorem ba0(iO:a<b)(hb:b<=d.size)(hd:d.size<=1000000):Rn F X 168 0 [.sl (ba d),jD a,jD b] (·=[.sl (ba (heapSort aC d a b))]):=by
 exact wr Y<|wo Y (eW (a:=b) (b:=a) a0B a0B)<|wo Y (eW (a:=b - a) (b:=1) a0B a0B)<|wo Y (wb (a:=b - a - 1) (b:=2) a0B a0B)<|b_ Y (ac8 a (b - a) ((b - a - 1)/2+1) d a0B a0B hd)
theorem uQ:∀(n i j:Nat) (d:a0v),j - i<=n->j<d.size->d.size<=1000000->i<=1000000->Rn F X 169 1 [.sl (ba d),jD i,jD j] (·=[.sl (ba (reverseLoop i j d))]):=by
 intro n
 induction n with
 |zero=>
  intro i j d hn hj hd hi;refine wr Y ?_;unfold reverseLoop;rw[j_ a0B];exact wn Y ai<|wt Y Y
 |succ n ih=>
  intro i j d hn hj hd hi;refine wr Y ?_;unfold reverseLoop;by_cases h:i<j
  ·rw[i_ h];refine wy Y ai ?_;refine W.ld Y hj ?_;dsimp only [Nd.r,c_,n_];refine W.ld Y a0B ?_;dsimp only [Nd.r,c_,n_];refine W.sw Y Y Y Y a0B hj ?_;dsimp only [Nd.r,c_,n_];exact wo Y (bm (a:=i) (b:=1) a0B)<|wo Y (eW (a:=j) (b:=1) a0B a0B)<|b_ Y (ih (i+1) (j - 1) _ a0B (by rw[size_swp];omega) (by rw[size_swp];exact hd) a0B)
  ·rw[j_ h];exact wn Y ai<|wt Y Y
theorem Zk(iO:a<b)(hb:b<=d.size)(hd:d.size<=1000000):Rn F X 169 0 [.sl (ba d),jD a,jD b] (·=[.sl (ba (reverseRange d a b))]):=by
 exact wr Y<|wo Y (eW (a:=b) (b:=1) a0B a0B)<|b_ Y (uQ _ a (b - 1) d (xk _) a0B hd a0B)
end
section
theorem Gg{s:Nat}(ha:a<n)(hb:b<n):(order2 aC d a b s).1<n/\(order2 aC d a b s).2.1<n/\(order2 aC d a b s).2.2<=s+1:=by
 unfold order2;split
 ·exact⟨hb,ha,xk _⟩
 ·exact⟨ha,hb,Nat.le_succ _⟩
theorem OA{s:Nat}(ha:a<d.size)(hb:b<d.size)(hs:s<=1000):Rn F X 171 0 [.sl (ba d),jD a,jD b,jD s] (·=[jD (order2 aC d a b s).1,jD (order2 aC d a b s).2.1,.sl (ba d),jD (order2 aC d a b s).2.2]):=by
 refine wr Y ?_;refine W.ld Y hb ?_;refine W.ld Y ha ?_;dsimp only [Nd.r,c_,n_];unfold order2;refine W.lt Y Y ?_ ?_<;>intro h
 ·rw[i_ h];exact wo Y (bm (a:=s) (b:=1) a0B)<|wt Y Y
 ·rw[j_ (by rw[h];simp)];exact wt Y Y
theorem OF{s:Nat}(ha:a<n)(hb:b<n)(hc:c<n):(median aC d a b c s).1<n/\(median aC d a b c s).2<=s+3:=by
 unfold median;obtain⟨a1,a2,a3⟩:=Gg (d:=d) (s:=s) ha hb;obtain⟨b1,b2,b3⟩:=Gg (d:=d) (s:=(order2 aC d a b s).2.2) a2 hc;obtain⟨c1,c2,c3⟩:=Gg (d:=d) (s:=(order2 aC d (order2 aC d a b s).2.1 c (order2 aC d a b s).2.2).2.2) a1 b1;exact⟨c2,by show(order2 aC d _ _ _).2.2<=_;omega⟩
theorem OE{s:Nat}(ha:a<d.size)(hb:b<d.size)(hc:c<d.size)(hs:s<=900):Rn F X 172 0 [.sl (ba d),jD a,jD b,jD c,jD s] (·=[jD (median aC d a b c s).1,.sl (ba d),jD (median aC d a b c s).2]):=by
 obtain⟨a1,a2,a3⟩:=Gg (d:=d) (s:=s) ha hb;obtain⟨b1,b2,b3⟩:=Gg (d:=d) (s:=(order2 aC d a b s).2.2) a2 hc;exact wr Y<|wl Y (OA ha hb a0B) rfl<|wl Y (OA a2 hc a0B) rfl<|wl Y (OA a1 b1 a0B) rfl<|wt Y Y
theorem OG{s:Nat}(ha:1<=a)(hb:a+1<d.size)(hd:d.size<=1000000)(hs:s<=900):Rn F X 173 0 [.sl (ba d),jD a,jD s] (·=[jD (medianAdjacent aC d a s).1,.sl (ba d),jD (medianAdjacent aC d a s).2]):=by
 exact wr Y<|wo Y (eW (a:=a) (b:=1) a0B a0B)<|wo Y (bm (a:=a) (b:=1) a0B)<|wl Y (OE (d:=d) (a:=a - 1) (b:=a) (c:=a+1) a0B a0B hb hs) rfl<|wt Y Y
def Hz:Hint->Int| .unknown=>0| .increasing=>1| .decreasing=>2
theorem Wx{r:Nat×Nat}{cr cs cv:xM}{lL lK ρ3:a0g}{s1 s2 s3:a0e}(h1:aI (bR (lk env)) [cr]=some [jD r.2])(h2:∀k:Int,aI (aZ (lk env)) [cv,.int .i64 k,cs]=some [jD r.1,iD9 k,.sl (ba d)]):
 Wp F X f (.br (.bin .eql 0) [cr,.int .i64 0] (.ret lL s1 [cv,.int .i64 1,cs]) (.br (.bin .eql 0) [cr,.int .i64 12] (.ret lK s2 [cv,.int .i64 2,cs]) (.ret ρ3 s3 [cv,.int .i64 0,cs]))) env (·=[jD r.1,iD9 (Hz (if r.2=0 then .increasing else if r.2=12 then .decreasing else .unknown)),.sl (ba d)]):=by
 have h3:∀k:Int,aI (bR (lk env)) [cr,.int .i64 k]=some [jD r.2,iD9 k]:=fun k=>by
  obtain⟨e,h⟩:=kP h1;cases h.1;unfold aI;rw[h.2];rfl
 refine d_ (h3 0) ay ?_ ?_<;>intro h
 ·rw[i_ a0B];exact Wp.ret (h2 1) rfl
 ·rw[j_ a0B];refine d_ (h3 12) ay ?_ ?_<;>intro h
  ·rw[i_ a0B];exact Wp.ret (h2 2) rfl
  ·rw[j_ a0B];exact Wp.ret (h2 0) rfl
theorem Xk(iO:a<b)(hb:b<=d.size)(hd:d.size<=1000000):Rn F X 174 0 [.sl (ba d),jD a,jD b] (·=[jD (choosePivot aC d a b).1,iD9 (Hz (choosePivot aC d a b).2),.sl (ba d)]):=by
 refine wr Y ?_;have hl:(b - a)/4*3<=b - a:=a0B
 refine wo Y (eW (a:=b) (b:=a) a0B a0B)<|wo Y (wb (a:=b - a) (b:=4) a0B a0B)<|wo Y (uA (a:=(b - a)/4) (b:=1) a0B)<|wo Y (bm (a:=a) (b:=(b - a)/4*1) a0B)<|wo Y (wb (a:=b - a) (b:=4) a0B a0B)<|wo Y (uA (a:=(b - a)/4) (b:=2) a0B)<|wo Y (bm (a:=a) (b:=(b - a)/4*2) a0B)<|wo Y (wb (a:=b - a) (b:=4) a0B a0B)<|wo Y (uA (a:=(b - a)/4) (b:=3) a0B)<|wo Y (bm (a:=a) (b:=(b - a)/4*3) a0B) ?_;dsimp only [c_,n_];unfold choosePivot;dsimp only;by_cases h8:b - a≥8
 ·refine wy Y fp ?_;rw[i_ h8];by_cases Jd:b - a≥50
  ·refine wy Y fp ?_;rw[i_ Jd];have e1:=OF (d:=d) (a:=a+(b - a)/4*1 - 1) (b:=a+(b - a)/4*1) (c:=a+(b - a)/4*1+1) (s:=0) (n:=d.size) a0B a0B a0B;have e2:=OF (d:=d) (a:=a+(b - a)/4*2 - 1) (b:=a+(b - a)/4*2) (c:=a+(b - a)/4*2+1) (s:=(medianAdjacent aC d (a+(b - a)/4*1) 0).2) (n:=d.size) a0B a0B a0B;have e3:=OF (d:=d) (a:=a+(b - a)/4*3 - 1) (b:=a+(b - a)/4*3) (c:=a+(b - a)/4*3+1) (s:=(medianAdjacent aC d (a+(b - a)/4*2) (medianAdjacent aC d (a+(b - a)/4*1) 0).2).2) (n:=d.size) a0B a0B a0B;have g1:(medianAdjacent aC d (a+(b - a)/4*1) 0).1<d.size/\(medianAdjacent aC d (a+(b - a)/4*1) 0).2<=0+3:=e1;have g2:(medianAdjacent aC d (a+(b - a)/4*2) (medianAdjacent aC d (a+(b - a)/4*1) 0).2).1<d.size/\(medianAdjacent aC d (a+(b - a)/4*2) (medianAdjacent aC d (a+(b - a)/4*1) 0).2).2<=(medianAdjacent aC d (a+(b - a)/4*1) 0).2+3:=e2;have g3:(medianAdjacent aC d (a+(b - a)/4*3) (medianAdjacent aC d (a+(b - a)/4*2) (medianAdjacent aC d (a+(b - a)/4*1) 0).2).2).1<d.size/\(medianAdjacent aC d (a+(b - a)/4*3) (medianAdjacent aC d (a+(b - a)/4*2) (medianAdjacent aC d (a+(b - a)/4*1) 0).2).2).2<=(medianAdjacent aC d (a+(b - a)/4*2) (medianAdjacent aC d (a+(b - a)/4*1) 0).2).2+3:=e3;refine wl Y (OG (d:=d) (a:=a+(b - a)/4*1) (s:=0) a0B a0B hd a0B) rfl<|wl Y (OG (d:=d) (a:=a+(b - a)/4*2) (s:=(medianAdjacent aC d (a+(b - a)/4*1) 0).2) a0B a0B hd a0B) rfl<|wl Y (OG (d:=d) (a:=a+(b - a)/4*3) (s:=(medianAdjacent aC d (a+(b - a)/4*2) (medianAdjacent aC d (a+(b - a)/4*1) 0).2).2) a0B a0B hd a0B) rfl<|wl Y (OE (d:=d) g1.1 g2.1 g3.1 a0B) rfl ?_;dsimp only [c_,n_];exact Wx rfl (fun k=>rfl)
  ·refine wn Y fp ?_;rw[j_ Jd];refine wl Y (OE (d:=d) (a:=a+(b - a)/4*1) (b:=a+(b - a)/4*2) (c:=a+(b - a)/4*3) (s:=0) a0B a0B a0B a0B) rfl ?_;dsimp only [c_,n_];exact Wx rfl (fun k=>rfl)
 ·refine wn Y fp ?_;rw[j_ h8];exact wt Y Y
theorem Vw:∀(j:Nat) (d:a0v),(shiftDown aC j d).size=d.size
 |0,d=>rfl
 |j+1,d=>by
  unfold shiftDown;split
  ·rfl
  ·rw[Vw j,size_swp]
theorem Jq(b:Nat):∀(n j:Nat) (d:a0v),b - j<=n->(shiftUp aC b j d).size=d.size:=by
 intro n
 induction n with
 |zero=>
  intro j d hn;unfold shiftUp;rw[j_ a0B]
 |succ n ih=>
  intro j d hn;unfold shiftUp;split
  ·split
   ·rfl
   ·rw[ih _ _ a0B,size_swp]
  ·rfl
theorem Qn{i t:Nat}(ht:t<100):∀(n j:Nat) (d:a0v),b - j<=n->1<=j->j<=1000000->b<=d.size->d.size<=1000000->Rn F X 175 1 [.sl (ba (shiftUp aC b j d)),jD a,jD b,jD i,jD (t+1)] Q->Rn F X 175 4 [.sl (ba d),jD a,jD b,jD i,jD t,jD j] Q:=by
 intro n
 induction n with
 |zero=>
  intro j d hn hj ja hb hd H;refine wr Y ?_;unfold shiftUp at H;rw[j_ a0B] at H;exact wn Y ai<|wo Y (bm (a:=t) (b:=1) a0B)<|wj H
 |succ n ih=>
  intro j d hn hj ja hb hd H;refine wr Y ?_;unfold shiftUp at H;by_cases h:j<b
  ·rw[i_ h] at H;refine wy Y ai ?_;refine W.ld Y a0B ?_;refine wo Y (eW (a:=j) (b:=1) a0B a0B) ?_;refine W.ld Y a0B ?_;dsimp only [Nd.r,c_,n_];refine W.lt Y Y (fun h2=> ?_) (fun h2=> ?_)
   ·rw[j_ (by rw[h2];simp)] at H;refine wo Y (eW (a:=j) (b:=1) a0B a0B)<|wo Y (eW (a:=j) (b:=1) a0B a0B) ?_;refine W.ld Y a0B ?_;refine W.ld Y a0B ?_;dsimp only [Nd.r,c_,n_];refine W.sw Y Y Y Y a0B a0B ?_;exact wo Y (bm (a:=j) (b:=1) a0B)<|b_ Y (ih (j+1) _ a0B a0B a0B (by rw[size_swp];exact hb) (by rw[size_swp];exact hd) H)
   ·rw[i_ (by rw[h2];rfl)] at H;exact wo Y (bm (a:=t) (b:=1) a0B)<|wj H
  ·rw[j_ h] at H;exact wn Y ai<|wo Y (bm (a:=t) (b:=1) a0B)<|wj H
theorem bf5{i t:Nat}(ht:t<100)(hi:1<=i)(sA:i<=b)(I9:b<=1000000):∀(j:Nat) (d:a0v),j<d.size->b<=d.size->d.size<=1000000->Rn F X 175 1 [.sl (ba (if b - i≥2 then shiftUp aC b (i+1) (shiftDown aC j d) else shiftDown aC j d)),jD a,jD b,jD i,jD (t+1)] Q->Rn F X 175 3 [.sl (ba d),jD a,jD b,jD i,jD t,jD j] Q:=by
 intro j
 induction j with
 |zero=>
  intro d hj hb hd H;refine wr Y ?_;rw[shiftDown] at H;refine wn Y fp<|wo Y (eW (a:=b) (b:=i) a0B a0B) ?_;by_cases h:b - i≥2
  ·rw[i_ h] at H;exact wy Y fp<|wo Y (bm (a:=i) (b:=1) a0B)<|b_ Y (Qn ht _ (i+1) d (xk _) a0B a0B hb hd H)
  ·rw[j_ h] at H;exact wn Y fp<|wo Y (bm (a:=t) (b:=1) a0B)<|wj H
 |succ j ih=>
  intro d hj hb hd H;refine wr Y<|wy Y fp ?_;refine W.ld Y hj ?_;refine wo Y (po (j:=j) a0B) ?_;refine W.ld Y a0B ?_;dsimp only [Nd.r,c_,n_];refine W.lt Y Y (fun h2=> ?_) (fun h2=> ?_)
  ·have e:shiftDown aC (j+1) d=shiftDown aC j (swp d (j+1) j):=by
    rw[shiftDown,j_ (by rw[h2];simp)]
   rw[e] at H;refine wo Y (po (j:=j) a0B)<|wo Y (po (j:=j) a0B) ?_;refine W.ld Y a0B ?_;refine W.ld Y hj ?_;dsimp only [Nd.r,c_,n_];refine W.sw Y Y Y Y hj a0B ?_;exact wo Y (po (j:=j) a0B)<|b_ Y (ih _ (by rw[size_swp];omega) (by rw[size_swp];exact hb) (by rw[size_swp];exact hd) H)
  ·have e:shiftDown aC (j+1) d=d:=by
    rw[shiftDown,i_ (by rw[h2];rfl)]
   rw[e] at H;refine wo Y (eW (a:=b) (b:=i) a0B a0B) ?_;by_cases h:b - i≥2
   ·rw[i_ h] at H;exact wy Y fp<|wo Y (bm (a:=i) (b:=1) a0B)<|b_ Y (Qn ht _ (i+1) d (xk _) a0B a0B hb hd H)
   ·rw[j_ h] at H;exact wn Y fp<|wo Y (bm (a:=t) (b:=1) a0B)<|wj H
end
theorem Re(p:Nd->Bool)(d:a0v)(j i:Nat)(h:i<=j)(hp:p d[i]! =true):scanUp p d j i=scanUp p d j (i+1):=by
 rw[scanUp,i_ (by simp[h,hp])]
theorem sS(p:Nd->Bool)(d:a0v)(j i:Nat)(h: ¬i<=j\/p d[i]! =false):scanUp p d j i=i:=by
 rw[scanUp,j_ (by rcases h with h|h<;>simp[h])]
theorem Rf(p:Nd->Bool)(d:a0v)(i j:Nat)(h:i<=j+1)(hp:p d[j+1]! =true):scanDown p d i (j+1)=scanDown p d i j:=by
 rw[scanDown,i_ (by simp[h,hp])]
theorem v8(p:Nd->Bool)(d:a0v)(i j:Nat)(h: ¬i<=j\/p d[j]! =false):scanDown p d i j=j:=by
 cases j with
 |zero=>rfl
 |succ k=>rw[scanDown,j_ (by rcases h with h|h<;>simp[h])]
section
abbrev M7(r:a0v×Bool):a0d:=[.bool r.2,.sl (ba r.1)]
theorem bs5{s t:Nat}(hts:t+(s+1)=5)(I9:b<=1000000)
 (P:∀(i:Nat) (d:a0v),a+1<=i->i<=b->b<=d.size->d.size<=1000000->Rn F X 175 1 [.sl (ba d),jD a,jD b,jD i,jD (t+1)] (·=M7 (partialIns aC a b s i d))):∀(n i:Nat) (d:a0v),b - i<=n->a+1<=i->i<=b->b<=d.size->d.size<=1000000->Rn F X 175 2 [.sl (ba d),jD a,jD b,jD i,jD t] (·=M7 (partialIns aC a b (s+1) i d)):=by
 intro n
 induction n with
 |zero=>
  intro i d hn I' sA hb hd;refine wr Y ?_;have hs:scanSorted aC d b i=i:=by rw[scanSorted,j_ a0F]
  refine wn Y ai<|wy Y ay ?_;unfold partialIns;rw[hs,i_ a0B];exact wt Y Y
 |succ n ih=>
  intro i d hn I' sA hb hd;refine wr Y ?_;by_cases h:i<b
  ·refine wy Y ai ?_;refine W.ld Y a0B ?_;refine wo Y (eW (a:=i) (b:=1) a0B a0B) ?_;refine W.ld Y a0B ?_;dsimp only [Nd.r,c_,n_];refine W.lt Y Y (fun h2=> ?_) (fun h2=> ?_)
   ·have hs:scanSorted aC d b i=i:=by rw[scanSorted,j_ (by rw[h2];simp)]
    refine wn Y ay<|wo Y (eW (a:=b) (b:=a) a0B a0B) ?_;unfold partialIns;rw[hs,j_ a0B];by_cases Jd:b - a<50
    ·rw[i_ Jd];exact wy Y ai<|wt Y Y
    rw[j_ Jd];refine wn Y ai<|wo Y (eW (a:=i) (b:=1) a0B a0B)<|wo Y (eW (a:=i) (b:=1) a0B a0B) ?_;refine W.ld Y a0B ?_;refine W.ld Y a0B ?_;dsimp only [Nd.r,c_,n_];refine W.sw Y Y Y Y a0B a0B ?_;dsimp only [c_,n_];refine wo Y (eW (a:=i) (b:=a) a0B a0B) ?_;have aS:(swp d i (i - 1)).size=d.size:=size_swp _ _ _;by_cases CS:i - a≥2
    ·rw[i_ CS];refine wy Y fp<|wo Y (eW (a:=i) (b:=1) a0B a0B)<|b_ Y (bf5 a0B a0B sA I9 (i - 1) _ (by rw[aS];omega) (by rw[aS];exact hb) (by rw[aS];exact hd) ?_);have zN:(shiftDown aC (i - 1) (swp d i (i - 1))).size=d.size:=by rw[Vw,aS]
     by_cases bM:b - i≥2
     ·rw[i_ bM];exact P i _ I' sA (by rw[Jq b _ (i+1) _ (xk _),zN];exact hb) (by rw[Jq b _ (i+1) _ (xk _),zN];exact hd)
     ·rw[j_ bM];exact P i _ I' sA (by rw[zN];exact hb) (by rw[zN];exact hd)
    ·rw[j_ CS];refine wn Y fp<|wo Y (eW (a:=b) (b:=i) a0B a0B) ?_;by_cases bM:b - i≥2
     ·rw[i_ bM];refine wy Y fp<|wo Y (bm (a:=i) (b:=1) a0B)<|b_ Y (Qn a0B _ (i+1) _ (xk _) a0B a0B (by rw[aS];exact hb) (by rw[aS];exact hd) ?_);exact P i _ I' sA (by rw[Jq b _ (i+1) _ (xk _),aS];exact hb) (by rw[Jq b _ (i+1) _ (xk _),aS];exact hd)
     ·rw[j_ bM];exact wn Y fp<|wo Y (bm (a:=t) (b:=1) a0B)<|b_ Y (P i _ I' sA (by rw[aS];exact hb) (by rw[aS];exact hd))
   ·have hs:scanSorted aC d b i=scanSorted aC d b (i+1):=by rw[scanSorted,i_ (by rw[h2];simp[h])]
    refine wo Y (bm (a:=i) (b:=1) a0B) ?_;have:=ih (i+1) d a0B a0B a0B hb hd;unfold partialIns at this⊢;rw[hs];exact b_ Y this
  ·have hs:scanSorted aC d b i=i:=by rw[scanSorted,j_ a0F]
   refine wn Y ai<|wy Y ay ?_;unfold partialIns;rw[hs,i_ a0B];exact wt Y Y
theorem aa3(I9:b<=1000000):∀(s t:Nat),t+s=5->∀(i:Nat) (d:a0v),a+1<=i->i<=b->b<=d.size->d.size<=1000000->Rn F X 175 1 [.sl (ba d),jD a,jD b,jD i,jD t] (·=M7 (partialIns aC a b s i d))
 |0,t,ht,i,d,h1,h2,hb,hd=>by
  exact wr Y<|wn Y ai<|wt Y Y
 |s+1,t,ht,i,d,h1,h2,hb,hd=>by
  exact wr Y<|wy Y ai<|b_ Y (bs5 ht I9 (fun i d h1 h2 hb hd=>aa3 I9 s (t+1) a0B i d h1 h2 hb hd) _ i d (xk _) h1 h2 hb hd)
theorem aW8(iO:a<b)(hb:b<=d.size)(hd:d.size<=1000000):Rn F X 175 0 [.sl (ba d),jD a,jD b] (·=M7 (partialInsertionSort aC d a b)):=by
 exact wr Y<|wo Y (bm (a:=a) (b:=1) a0B)<|b_ Y (aa3 a0B 5 0 rfl (a+1) d (xk _) a0B hb hd)
theorem pe2(ha:a<d.size)(hj:j<d.size)(hd:d.size<=1000000):∀(n i:Nat),j+1 - i<=n->i<=9000000->Rn F X 176 3 [.sl (ba d),jD a,jD (scanUp (fun x=> !aC d[a]! x) d j i),jD j] Q->Rn F X 176 2 [.sl (ba d),jD a,jD i,jD j] Q:=by
 intro n
 induction n with
 |zero=>
  intro i hn hi H;refine wr Y ?_;rw[sS _ _ _ _ (.inl a0B)] at H;exact wn Y kv<|wj H
 |succ n ih=>
  intro i hn hi H;refine wr Y ?_;by_cases h:i<=j
  ·refine wy Y kv ?_;refine W.ld Y ha ?_;refine W.ld Y a0B ?_;dsimp only [Nd.r,c_,n_];refine W.lt Y Y (fun h2=> ?_) (fun h2=> ?_)
   ·rw[sS _ _ _ _ (.inr (by rw[h2];rfl))] at H;exact b_ Y H
   ·rw[Re _ _ _ _ h (by rw[h2];rfl)] at H;exact wo Y (bm (a:=i) (b:=1) a0B)<|b_ Y (ih (i+1) a0B a0B H)
  ·rw[sS _ _ _ _ (.inl h)] at H;exact wn Y kv<|wj H
theorem pe3{i:Nat}(ha:a<d.size)(hi:1<=i)(hd:d.size<=1000000):∀(j:Nat),j<d.size->(i>scanDown (fun x=>aC d[a]! x) d i j->Q [jD i,.sl (ba d)])->(¬i>scanDown (fun x=>aC d[a]! x) d i j->Rn F X 176 1 [.sl (ba (swp d i (scanDown (fun x=>aC d[a]! x) d i j))),jD a,jD (i+1),jD (scanDown (fun x=>aC d[a]! x) d i j - 1)] Q)->Rn F X 176 3 [.sl (ba d),jD a,jD i,jD j] Q:=by
 intro j
 induction j with
 |zero=>
  intro hj H1 H2;exact wr Y<|wn Y (kv (a:=(i:Nat)) (b:=0))<|wy Y (cg (a:=(i:Nat)) (b:=0))<|wt Y (H1 (by rw[v8 _ _ _ _ (.inl a0B)];omega))
 |succ j ih=>
  intro hj H1 H2;refine wr Y ?_;by_cases h:i<=j+1
  ·refine wy Y kv ?_;refine W.ld Y ha ?_;refine W.ld Y hj ?_;dsimp only [Nd.r,c_,n_];refine W.lt Y Y (fun h2=> ?_) (fun h2=> ?_)
   ·rw[Rf _ _ _ _ h h2] at H1 H2;exact wo Y (po (j:=j) a0B)<|b_ Y (ih a0B H1 H2)
   ·rw[v8 _ _ _ _ (.inr h2)] at H1 H2;refine wn Y cg ?_;refine W.ld Y hj ?_;refine W.ld Y a0B ?_;dsimp only [Nd.r,c_,n_];refine W.sw Y Y Y Y a0B hj ?_;exact wo Y (bm (a:=i) (b:=1) a0B)<|wo Y (po (j:=j) a0B)<|b_ Y (H2 a0B)
  ·rw[v8 _ _ _ _ (.inl h)] at H1 H2;exact wn Y kv<|wy Y cg<|wt Y (H1 a0B)
theorem pe1:∀(n i j:Nat) (d:a0v),j+1 - i<=n->a<d.size->j<d.size->1<=i->i<=j+2->d.size<=1000000->Rn F X 176 1 [.sl (ba d),jD a,jD i,jD j] (·=[jD (partEqLoop aC a i j d).1,.sl (ba (partEqLoop aC a i j d).2)]):=by
 intro n
 induction n with
 |zero=>
  intro i j d hn ha hj hi CJ hd;refine wr Y<|b_ Y ?_;rw[partEqLoop_eq];have hu:scanUp (fun x=> !aC d[a]! x) d j i=i:=sS _ _ _ _ (.inl a0B);have lU:=scanDown_le (fun x=>aC d[a]! x) d i j;rw[hu];refine pe2 ha hj hd _ i (xk _) a0B ?_;rw[hu];refine pe3 ha hi hd j hj (fun h=> ?_) (fun h=>absurd h a0B);rw[i_ h]
 |succ n ih=>
  intro i j d hn ha hj hi CJ hd;refine wr Y<|b_ Y ?_;rw[partEqLoop_eq];obtain⟨u1,u2,_⟩:=scanUp_spec (fun x=> !aC d[a]! x) d j _ i rfl;refine pe2 ha hj hd _ i (xk _) a0B ?_;generalize scanUp (fun x=> !aC d[a]! x) d j i=i2 at u1 u2⊢;have lU:=scanDown_le (fun x=>aC d[a]! x) d i2 j;refine pe3 ha a0B hd j hj ?_ ?_<;>intro h
  ·rw[i_ h]
  ·rw[j_ h];have h':i2<=scanDown (fun x=>aC d[a]! x) d i2 j:=Nat.le_of_not_lt h;generalize scanDown (fun x=>aC d[a]! x) d i2 j=j2 at h' lU⊢;exact ih _ _ _ a0B (by rw[size_swp];exact ha) (by rw[size_swp];omega) a0B a0B (by rw[size_swp];exact hd)
theorem bs6(hap:a<=p)(hpb:p<b)(hb:b<=d.size)(hd:d.size<=1000000):Rn F X 176 0 [.sl (ba d),jD a,jD b,jD p] (·=[jD (partitionEqual aC d a b p).1,.sl (ba (partitionEqual aC d a b p).2)]):=by
 refine wr Y ?_;refine W.ld Y a0B ?_;refine W.ld Y a0B ?_;dsimp only [Nd.r,c_,n_];refine W.sw Y Y Y Y a0B a0B ?_;exact wo Y (bm (a:=a) (b:=1) a0B)<|wo Y (eW (a:=b) (b:=1) a0B a0B)<|b_ Y (pe1 _ (a+1) (b - 1) _ (xk _) (by rw[size_swp];omega) (by rw[size_swp];omega) a0B a0B (by rw[size_swp];exact hd))
theorem pt1(ha:a<d.size)(hj:j<d.size)(hd:d.size<=1000000):∀(n i:Nat),j+1 - i<=n->i<=9000000->Rn F X 177 2 [.sl (ba d),jD a,jD (scanUp (fun x=>aC x d[a]!) d j i),jD j] Q->Rn F X 177 1 [.sl (ba d),jD a,jD i,jD j] Q:=by
 intro n
 induction n with
 |zero=>
  intro i hn hi H;refine wr Y ?_;rw[sS (fun x=>aC x d[a]!) _ _ _ (.inl a0B)] at H;exact wn Y kv<|wj H
 |succ n ih=>
  intro i hn hi H;refine wr Y ?_;by_cases h:i<=j
  ·refine wy Y kv ?_;refine W.ld Y a0B ?_;refine W.ld Y ha ?_;dsimp only [Nd.r,c_,n_];refine W.lt Y Y (fun h2=> ?_) (fun h2=> ?_)
   ·rw[Re (fun x=>aC x d[a]!) _ _ _ h h2] at H;exact wo Y (bm (a:=i) (b:=1) a0B)<|b_ Y (ih (i+1) a0B a0B H)
   ·rw[sS (fun x=>aC x d[a]!) _ _ _ (.inr h2)] at H;exact b_ Y H
  ·rw[sS (fun x=>aC x d[a]!) _ _ _ (.inl h)] at H;exact wn Y kv<|wj H
theorem pt4(ha:a<d.size)(hj:j<d.size)(hd:d.size<=1000000):∀(n i:Nat),j+1 - i<=n->i<=9000000->Rn F X 177 5 [.sl (ba d),jD a,jD (scanUp (fun x=>aC x d[a]!) d j i),jD j] Q->Rn F X 177 4 [.sl (ba d),jD a,jD i,jD j] Q:=by
 intro n
 induction n with
 |zero=>
  intro i hn hi H;refine wr Y ?_;rw[sS (fun x=>aC x d[a]!) _ _ _ (.inl a0B)] at H;exact wn Y kv<|wj H
 |succ n ih=>
  intro i hn hi H;refine wr Y ?_;by_cases h:i<=j
  ·refine wy Y kv ?_;refine W.ld Y a0B ?_;refine W.ld Y ha ?_;dsimp only [Nd.r,c_,n_];refine W.lt Y Y (fun h2=> ?_) (fun h2=> ?_)
   ·rw[Re (fun x=>aC x d[a]!) _ _ _ h h2] at H;exact wo Y (bm (a:=i) (b:=1) a0B)<|b_ Y (ih (i+1) a0B a0B H)
   ·rw[sS (fun x=>aC x d[a]!) _ _ _ (.inr h2)] at H;exact b_ Y H
  ·rw[sS (fun x=>aC x d[a]!) _ _ _ (.inl h)] at H;exact wn Y kv<|wj H
theorem pt2{i:Nat}(ha:a<d.size)(hi:1<=i)(hd:d.size<=1000000):∀(j:Nat),j<d.size->(i>scanDown (fun x=> !aC x d[a]!) d i j->Q [jD (scanDown (fun x=> !aC x d[a]!) d i j),.bool true,.sl (ba (swp d (scanDown (fun x=> !aC x d[a]!) d i j) a))])->(¬i>scanDown (fun x=> !aC x d[a]!) d i j->Rn F X 177 3 [.sl (ba (swp d i (scanDown (fun x=> !aC x d[a]!) d i j))),jD a,jD (i+1),jD (scanDown (fun x=> !aC x d[a]!) d i j - 1)] Q)->Rn F X 177 2 [.sl (ba d),jD a,jD i,jD j] Q:=by
 intro j
 induction j with
 |zero=>
  intro hj H1 H2;refine wr Y ?_;rw[v8 (fun x=> !aC x d[a]!) _ _ _ (.inl a0B)] at H1;refine wn Y (kv (a:=(i:Nat)) (b:=0))<|wy Y (cg (a:=(i:Nat)) (b:=0)) ?_;refine W.ld Y ha ?_;refine W.ld Y (i:=0) hj ?_;dsimp only [Nd.r,c_,n_];exact W.sw (i:=0) (j:=a) rfl rfl rfl rfl hj ha (wt Y (H1 a0B))
 |succ j ih=>
  intro hj H1 H2;refine wr Y ?_;by_cases h:i<=j+1
  ·refine wy Y kv ?_;refine W.ld Y hj ?_;refine W.ld Y ha ?_;dsimp only [Nd.r,c_,n_];refine W.lt Y Y (fun h2=> ?_) (fun h2=> ?_)
   ·rw[v8 (fun x=> !aC x d[a]!) _ _ _ (.inr (by rw[h2];rfl))] at H1 H2;refine wn Y cg ?_;refine W.ld Y hj ?_;refine W.ld Y a0B ?_;dsimp only [Nd.r,c_,n_];refine W.sw Y Y Y Y a0B hj ?_;exact wo Y (bm (a:=i) (b:=1) a0B)<|wo Y (po (j:=j) a0B)<|b_ Y (H2 a0B)
   ·rw[Rf (fun x=> !aC x d[a]!) _ _ _ h (by rw[h2];rfl)] at H1 H2;exact wo Y (po (j:=j) a0B)<|b_ Y (ih a0B H1 H2)
  ·rw[v8 (fun x=> !aC x d[a]!) _ _ _ (.inl h)] at H1 H2;refine wn Y kv<|wy Y cg ?_;refine W.ld Y ha ?_;refine W.ld Y hj ?_;dsimp only [Nd.r,c_,n_];exact W.sw Y Y Y Y hj ha (wt Y (H1 a0B))
theorem pt5{i:Nat}(ha:a<d.size)(hi:1<=i)(hd:d.size<=1000000):∀(j:Nat),j<d.size->(i>scanDown (fun x=> !aC x d[a]!) d i j->Q [jD (scanDown (fun x=> !aC x d[a]!) d i j),.bool false,.sl (ba (swp d (scanDown (fun x=> !aC x d[a]!) d i j) a))])->(¬i>scanDown (fun x=> !aC x d[a]!) d i j->Rn F X 177 3 [.sl (ba (swp d i (scanDown (fun x=> !aC x d[a]!) d i j))),jD a,jD (i+1),jD (scanDown (fun x=> !aC x d[a]!) d i j - 1)] Q)->Rn F X 177 5 [.sl (ba d),jD a,jD i,jD j] Q:=by
 intro j
 induction j with
 |zero=>
  intro hj H1 H2;refine wr Y ?_;rw[v8 (fun x=> !aC x d[a]!) _ _ _ (.inl a0B)] at H1;refine wn Y (kv (a:=(i:Nat)) (b:=0))<|wy Y (cg (a:=(i:Nat)) (b:=0)) ?_;refine W.ld Y ha ?_;refine W.ld Y (i:=0) hj ?_;dsimp only [Nd.r,c_,n_];exact W.sw (i:=0) (j:=a) rfl rfl rfl rfl hj ha (wt Y (H1 a0B))
 |succ j ih=>
  intro hj H1 H2;refine wr Y ?_;by_cases h:i<=j+1
  ·refine wy Y kv ?_;refine W.ld Y hj ?_;refine W.ld Y ha ?_;dsimp only [Nd.r,c_,n_];refine W.lt Y Y (fun h2=> ?_) (fun h2=> ?_)
   ·rw[v8 (fun x=> !aC x d[a]!) _ _ _ (.inr (by rw[h2];rfl))] at H1 H2;refine wn Y cg ?_;refine W.ld Y hj ?_;refine W.ld Y a0B ?_;dsimp only [Nd.r,c_,n_];refine W.sw Y Y Y Y a0B hj ?_;exact wo Y (bm (a:=i) (b:=1) a0B)<|wo Y (po (j:=j) a0B)<|b_ Y (H2 a0B)
   ·rw[Rf (fun x=> !aC x d[a]!) _ _ _ h (by rw[h2];rfl)] at H1 H2;exact wo Y (po (j:=j) a0B)<|b_ Y (ih a0B H1 H2)
  ·rw[v8 (fun x=> !aC x d[a]!) _ _ _ (.inl h)] at H1 H2;refine wn Y kv<|wy Y cg ?_;refine W.ld Y ha ?_;refine W.ld Y hj ?_;dsimp only [Nd.r,c_,n_];exact W.sw Y Y Y Y hj ha (wt Y (H1 a0B))
theorem pt3:∀(n i j:Nat) (d:a0v),j+1 - i<=n->a<d.size->j<d.size->1<=i->i<=j+2->d.size<=1000000->Rn F X 177 3 [.sl (ba d),jD a,jD i,jD j] (·=[jD (partLoop aC a i j d).1,.bool false,.sl (ba (swp (partLoop aC a i j d).2 (partLoop aC a i j d).1 a))]):=by
 intro n
 induction n with
 |zero=>
  intro i j d hn ha hj hi CJ hd;refine wr Y<|b_ Y ?_;rw[partLoop_eq];have hu:scanUp (fun x=>aC x d[a]!) d j i=i:=sS (fun x=>aC x d[a]!) _ _ _ (.inl a0B);have lU:=scanDown_le (fun x=> !aC x d[a]!) d i j;rw[hu];refine pt4 ha hj hd _ i (xk _) a0B ?_;rw[hu];refine pt5 ha hi hd j hj (fun h=> ?_) (fun h=>absurd h a0B);rw[i_ h]
 |succ n ih=>
  intro i j d hn ha hj hi CJ hd;refine wr Y<|b_ Y ?_;rw[partLoop_eq];obtain⟨u1,u2,_⟩:=scanUp_spec (fun x=>aC x d[a]!) d j _ i rfl;refine pt4 ha hj hd _ i (xk _) a0B ?_;generalize scanUp (fun x=>aC x d[a]!) d j i=i2 at u1 u2⊢;have lU:=scanDown_le (fun x=> !aC x d[a]!) d i2 j;refine pt5 ha a0B hd j hj ?_ ?_<;>intro h
  ·rw[i_ h]
  ·rw[j_ h];have h':i2<=scanDown (fun x=> !aC x d[a]!) d i2 j:=Nat.le_of_not_lt h;exact ih _ _ _ a0B (by rw[size_swp];exact ha) (by rw[size_swp];omega) a0B a0B (by rw[size_swp];exact hd)
theorem aa0(hap:a<=p)(hpb:p<b)(hb:b<=d.size)(hd:d.size<=1000000):Rn F X 177 0 [.sl (ba d),jD a,jD b,jD p] (·=[jD (partition aC d a b p).1,.bool (partition aC d a b p).2.1,.sl (ba (partition aC d a b p).2.2)]):=by
 refine wr Y ?_;refine W.ld Y a0B ?_;refine W.ld Y a0B ?_;dsimp only [Nd.r,c_,n_];refine W.sw Y Y Y Y a0B a0B ?_;refine wo Y (bm (a:=a) (b:=1) a0B)<|wo Y (eW (a:=b) (b:=1) a0B a0B) ?_;have aS:(swp d a p).size=d.size:=size_swp _ _ _;refine b_ Y (pt1 (by rw[aS];omega) (by rw[aS];omega) (by rw[aS];exact hd) _ (a+1) (xk _) a0B ?_);obtain⟨u1,u2,_⟩:=scanUp_spec (fun x=>aC x (swp d a p)[a]!) (swp d a p) (b - 1) _ (a+1) rfl;unfold partition;dsimp only;generalize scanUp (fun x=>aC x (swp d a p)[a]!) (swp d a p) (b - 1) (a+1)=i2 at u1 u2⊢;have lU:=scanDown_le (fun x=> !aC x (swp d a p)[a]!) (swp d a p) i2 (b - 1);refine pt2 (by rw[aS];omega) a0B (by rw[aS];exact hd) (b - 1) (by rw[aS];omega) (fun h=> ?_) (fun h=> ?_)
 ·rw[i_ h]
 ·rw[j_ h];have h':i2<=scanDown (fun x=> !aC x (swp d a p)[a]!) (swp d a p) i2 (b - 1):=Nat.le_of_not_lt h;have cL:∀j,(swp (swp d a p) i2 j).size=d.size:=fun j=>by rw[size_swp,aS]
  exact pt3 _ _ _ _ (xk _) (by rw[cL];omega) (by rw[cL];omega) a0B a0B (by rw[cL];exact hd)
end
abbrev iG(n:Nat):D:= .int .u64 (n:Nat)
theorem wrap64(h:n<18446744073709551616):gG .u64 (n:Nat)=(n:Nat):=by
 rw[lW,IntWalk.u64_in _ a0B]
theorem O4(x y:UInt64):aL (.bin .xor c) [iG x.toNat,iG y.toNat]=some (iG (x^^^y).toNat):=by
 show some (D.int .u64 (gG .u64 ((Nat.xor (x.toNat%18446744073709551616) (y.toNat%18446744073709551616):Nat):Int)))=_;rw[Nat.mod_eq_of_lt x.toNat_lt,Nat.mod_eq_of_lt y.toNat_lt];have e:Nat.xor x.toNat y.toNat=(x^^^y).toNat:=(UInt64.toNat_xor x y).symm;rw[e,wrap64 (UInt64.toNat_lt _)]
theorem Xq(x:UInt64)(k:UInt64)(hk:k.toNat<64):aL (.bin .shl c) [iG x.toNat,iG k.toNat]=some (iG (x<<<k).toNat):=by
 show ofInt (bs (iI ((k.toNat:Nat):Int) 0) none (some (.int .u64 (gG .u64 (Int.mul (x.toNat:Nat) (.ofNat (Nat.pow 2 (Nat.min (Int.toNat (k.toNat:Nat)) 64))))))))=_;rw[nZ,f_ a0B];show some (D.int .u64 (gG .u64 ((x.toNat:Int)*((2^ (Nat.min k.toNat 64):Nat):Int))))=_;rw[show Nat.min k.toNat 64=k.toNat from Nat.min_eq_left a0B];have e:(x<<<k).toNat=x.toNat*2^k.toNat%18446744073709551616:=by
  rw[UInt64.toNat_shiftLeft,Nat.mod_eq_of_lt hk,Nat.shiftLeft_eq]
 rw[e,show(x.toNat:Int)*((2^k.toNat:Nat):Int)=((x.toNat*2^k.toNat:Nat):Int) by simp,lW]
 congr 2
theorem O5(x:Nat)(k:Nat)(hk:k<64):aL (.bin .shr c) [iG x,iG k]=some (iG (x/2^k)):=by
 show ofInt (bs (iI ((k:Nat):Int) 0) none (some (.int .u64 (Int.fdiv (x:Nat) (.ofNat (Nat.pow 2 (Nat.min (Int.toNat (k:Nat)) 64)))))))=_;rw[nZ,f_ a0B];show some (D.int .u64 (Int.fdiv (x:Int) ((2^ (Nat.min k 64):Nat):Int)))=_;rw[show Nat.min k 64=k from Nat.min_eq_left a0B,<-Int.ofNat_fdiv]
theorem aN1(x y:Nat)(hx:x<18446744073709551616)(hy:y<18446744073709551616):aL (.bin .and c) [iG x,iG y]=some (iG (x&&&y)):=by
 show some (D.int .u64 (gG .u64 ((Nat.land (x%18446744073709551616) (y%18446744073709551616):Nat):Int)))=_;rw[Nat.mod_eq_of_lt hx,Nat.mod_eq_of_lt hy];have e:Nat.land x y=x&&&y:=rfl;rw[e,wrap64 (Nat.lt_of_le_of_lt Nat.and_le_left hx)]
theorem aN0{x y:Nat}(h:y<=x)(hx:x<18446744073709551616):aL (.bin .sub c) [iG x,iG y]=some (iG (x - y)):=by
 show some (D.int .u64 (gG .u64 ((x:Int) - (y:Int))))=_;rw[show(x:Int) - (y:Int)=((x - y:Nat):Int) by omega,wrap64 a0B]
theorem PI{k:xO}(h:n<=9223372036854775807):aL (.mv .u64) [.int k (n:Nat)]=some (iG n):=by
 show some (D.int .u64 (IntKind.u64.wrap n))=_;rw[IntWalk.u64_in _ a0B]
section
theorem aJ0(x:UInt64):Rn F X 182 0 [iG x.toNat] (·=[iG (xorNext x).toNat,iG (xorNext x).toNat]):=by
 refine wr Y<|wo Y (Xq x 13 a0I)<|wo Y (O4 x (x<<<13))<|wo Y (O5 _ 7 a0I) ?_;have e:(x^^^x<<<13).toNat/2^7=((x^^^x<<<13)>>>7).toNat:=by
  rw[UInt64.toNat_shiftRight,Nat.shiftRight_eq_div_pow];rfl
 rw[e];exact wo Y (O4 _ _)<|wo Y (Xq _ 17 a0I)<|wo Y (O4 _ _)<|wt Y Y
def Mf:a0h:=(List.range 256).map fun n=>(bitsLen n).toUInt8
theorem V5(h:2^k<=n):bitsLen n=k+bitsLen (n/2^k):=by
 induction k generalizing n with
 |zero=>simp
 |succ k ih=>
  have h2:2^k<=n/2:=by rw[Nat.le_div_iff_mul_le a0B];rw[Nat.pow_succ] at h;exact h
  have e1:bitsLen n=1+bitsLen (n/2):=by
   have hp:0<2^k:=Nat.pow_pos a0B;unfold bitsLen;rw[j_ a0B,j_ a0B];have:n.log2=(n/2).log2+1:=by rw[Nat.log2_def,i_ (by rw[Nat.pow_succ] at h;omega)]
   omega
  rw[e1,ih h2,Nat.div_div_eq_div_mul,Nat.pow_succ,Nat.mul_comm 2];omega
theorem PU(h:n<256){l:a0h}(hl:l=Mf):aL .EN [.str l,.int .u8 (n:Nat)]=some (.int .u8 ((bitsLen n:Nat):Int)):=by
 subst hl;have h1:Mf[n]? =some (bitsLen n).toUInt8:=by
  unfold Mf;rw[xx,List.getElem?_range h];rfl
 have h2:bitsLen n<256:=by
  unfold bitsLen;split
  ·omega
  ·have:n.log2<8:=(Nat.log2_lt a0B).2 h;omega
 show(Mf[n]?).map (fun b=>D.int .u8 b.toNat)=_;rw[h1];show some (D.int .u8 (((bitsLen n).toUInt8.toNat:Nat):Int))=_;rw[show(bitsLen n).toUInt8.toNat=bitsLen n from Nat.mod_eq_of_lt h2]
theorem yR(h:n<1048576):bitsLen n<=20:=by
 unfold bitsLen;split
 ·omega
 ·have:n.log2<20:=(Nat.log2_lt a0B).2 h;omega
theorem KR(h:n<=1000000):Rn F X 180 0 [iG n] (·=[jD (bitsLen n)]):=by
 refine wr Y<|d_ Y fp (fun h1=>a0B) (fun _=> ?_);refine d_ Y fp (fun h1=> ?_) (fun h1=> ?_)
 ·have e1:=V5 (n:=n) (k:=16) a0B;refine wo Y (O5 n 16 a0I)<|d_ Y fp (fun h2=>a0B) (fun h2=> ?_);refine wo Y (yZ (n:=n/2^16) a0B)<|wo Y (PU (n:=n/2^16) a0B (by decide+kernel))<|wo Y (Ed (k:= .u8) (n:=bitsLen (n/2^16)) (by have:=yR (n:=n/2^16) a0B;omega))<|wo Y (bm (a:=16) (by have:=yR (n:=n/2^16) a0B;omega))<|wt Y ?_;rw[e1]
 ·refine d_ Y fp (fun h2=> ?_) (fun h2=> ?_)
  ·have e1:=V5 (n:=n) (k:=8) a0B;refine wo Y (O5 n 8 a0I)<|wo Y (yZ (n:=n/2^8) a0B)<|wo Y (PU (n:=n/2^8) a0B (by decide+kernel))<|wo Y (Ed (k:= .u8) (n:=bitsLen (n/2^8)) (by have:=yR (n:=n/2^8) a0B;omega))<|wo Y (bm (a:=8) (by have:=yR (n:=n/2^8) a0B;omega))<|wt Y ?_;rw[e1]
  ·refine wo Y (yZ (n:=n) a0B)<|wo Y (PU (n:=n) a0B (by decide+kernel))<|wo Y (Ed (k:= .u8) (n:=bitsLen n) (by have:=yR (n:=n) a0B;omega))<|wo Y (bm (a:=0) (by have:=yR (n:=n) a0B;omega))<|wt Y ?_;rw[Nat.zero_add]
theorem aW6(h:n<=1000000):Rn F X 181 0 [jD n] (·=[iG (1<<<bitsLen n)]):=by
 have hb:=yR (n:=n) a0B;refine wr Y<|wo Y (PI (k:= .i64) (n:=n) a0B)<|Wp.jU (f:=113) rfl (KR h) rfl ?_;have e2:aL (.bin .shl 0) [.int .u64 1,jD (bitsLen n)]=some (iG (1<<<bitsLen n)):=by
  show ofInt (bs (iI ((bitsLen n:Nat):Int) 0) none (some (.int .u64 (gG .u64 (Int.mul 1 (.ofNat (Nat.pow 2 (Nat.min (Int.toNat (bitsLen n:Nat)) 64))))))))=_;rw[nZ,f_ a0B];show some (D.int .u64 (gG .u64 (1*((2^ (Nat.min (bitsLen n) 64):Nat):Int))))=_;rw[show Nat.min (bitsLen n) 64=bitsLen n from Nat.min_eq_left a0B,Int.one_mul,Nat.one_shiftLeft,wrap64];exact Nat.lt_of_le_of_lt (Nat.pow_le_pow_right a0B hb) a0I
 exact wo Y e2<|wt Y Y
theorem Po{d:a0v}{a len qp m:Nat}{r:UInt64}(hm:1<=m)(fU:m<=2*len)(hb:a+len<=d.size)(hd:d.size<=1000000)(hi:qp<d.size)(aK:qp<=a+len/4*2+1)
 (h:Rn F X 170 1 [.sl (ba (breakStep a len m (r,d) qp).2),jD a,jD len,iG m,jD (qp+1),iG (breakStep a len m (r,d) qp).1.toNat] Q):
 Rn F X 170 1 [.sl (ba d),jD a,jD len,iG m,jD qp,iG r.toNat] Q:=by
 refine wr Y<|wo Y (wb (a:=len) (b:=4) a0B a0B)<|wo Y (uA (a:=len/4) (b:=2) a0B)<|wo Y (bm (a:=a) (b:=len/4*2) a0B)<|wo Y (bm (a:=a+len/4*2) (b:=1) a0B)<|Wp.nV Y (by rw[kv,u_ a0B])<|Wp.jU (f:=206) rfl (aJ0 r) rfl ?_;have hs:breakStep a len m (r,d) qp=(xorNext r,swp d qp (a+if(xorNext r).toNat&&& (m - 1)≥len then((xorNext r).toNat&&& (m - 1)) - len else(xorNext r).toNat&&& (m - 1))):=rfl;rw[hs] at h;clear hs;generalize len/4*2=z1;generalize len/4=z2;generalize xorNext r=r1 at h⊢;refine wo Y (aN0 (x:=m) (y:=1) hm a0B)<|wo Y (aN1 (x:=r1.toNat) (y:=m - 1) (UInt64.toNat_lt _) a0B) ?_;have hx:r1.toNat&&& (m - 1)<=m - 1:=Nat.and_le_right;refine wo Y (Ed (k:= .u64) (n:=r1.toNat&&& (m - 1)) a0B) ?_;generalize r1.toNat&&& (m - 1)=o at h hx⊢;generalize r1.toNat=r2 at h⊢;generalize mZ:m - 1=m1 at hx⊢;dsimp only [c_,n_];refine d_ Y fp (fun h2=> ?_) (fun h2=> ?_)
 ·rw[i_ a0B] at h;refine wo Y (eW (a:=o) (b:=len) a0B a0B) ?_;generalize hp:o - len=p at h⊢;refine wo Y (bm (a:=a) (b:=p) a0B)<|wo Y (bm (a:=a) (b:=p) a0B) ?_;refine W.ld (i:=a+p) rfl a0B ?_;refine W.ld (i:=qp) rfl hi ?_;dsimp only [c_,n_];refine W.sw (i:=qp) (j:=a+p) rfl rfl rfl rfl hi a0B ?_;dsimp only [c_,n_];exact wo Y (bm (a:=qp) (b:=1) a0B)<|wj h
 ·rw[j_ a0B] at h;refine wo Y (bm (a:=a) (b:=o) a0B)<|wo Y (bm (a:=a) (b:=o) a0B) ?_;refine W.ld (i:=a+o) rfl a0B ?_;refine W.ld (i:=qp) rfl hi ?_;dsimp only [c_,n_];refine W.sw (i:=qp) (j:=a+o) rfl rfl rfl rfl hi a0B ?_;dsimp only [c_,n_];exact wo Y (bm (a:=qp) (b:=1) a0B)<|wj h
theorem bp6(iO:a<=b)(hb:b<=d.size)(hd:d.size<=1000000):Rn F X 170 0 [.sl (ba d),jD a,jD b] (·=[.sl (ba (breakPatterns d a b))]):=by
 refine wr Y<|wo Y (eW (a:=b) (b:=a) iO a0B)<|d_ Y fp ?_ ?_<;>intro h
 ·have h8:8<=b - a:=a0B
  have e:breakPatterns d a b=(breakStep a (b - a) (1<<<bitsLen (b - a)) (breakStep a (b - a) (1<<<bitsLen (b - a)) (breakStep a (b - a) (1<<<bitsLen (b - a)) (UInt64.ofNat (b - a),d) (a+(b - a)/4*2 - 1)) (a+(b - a)/4*2 - 1+1)) (a+(b - a)/4*2 - 1+2)).2:=by
   unfold breakPatterns;exact i_ h8
  rw[e];have hz:∀(st:UInt64×a0v) (i:Nat),(breakStep a (b - a) (1<<<bitsLen (b - a)) st i).2.size=st.2.size:=fun st i=>size_swp _ _ _
  refine wo Y (PI (k:= .i64) (n:=b - a) a0B)<|Wp.jU (f:=205) rfl (aW6 (n:=b - a) a0B) rfl<|wo Y (wb (a:=b - a) (b:=4) a0B a0B)<|wo Y (uA (a:=(b - a)/4) (b:=2) a0B)<|wo Y (bm (a:=a) (b:=(b - a)/4*2) a0B)<|wo Y (eW (a:=a+(b - a)/4*2) (b:=1) a0B a0B)<|b_ Y ?_;have e6:(UInt64.ofNat (b - a)).toNat=b - a:=Nat.mod_eq_of_lt a0B;have m1:1<=1<<<bitsLen (b - a):=by rw[Nat.one_shiftLeft];exact Nat.two_pow_pos _
  have m2:1<<<bitsLen (b - a)<=2*(b - a):=by rw[Nat.one_shiftLeft];exact two_pow_bitsLen_le a0B
  have e7:iG (b - a)=iG (UInt64.ofNat (b - a)).toNat:=by rw[e6]
  have e8:Rn F X 170 1 [.sl (ba d),jD a,jD (b - a),iG (1<<<bitsLen (b - a)),jD (a+(b - a)/4*2 - 1),iG (UInt64.ofNat (b - a)).toNat] (·=[.sl (ba (breakStep a (b - a) (1<<<bitsLen (b - a)) (breakStep a (b - a) (1<<<bitsLen (b - a)) (breakStep a (b - a) (1<<<bitsLen (b - a)) (UInt64.ofNat (b - a),d) (a+(b - a)/4*2 - 1)) (a+(b - a)/4*2 - 1+1)) (a+(b - a)/4*2 - 1+2)).2)]):=by
   refine Po m1 m2 a0B hd a0B a0B ?_;generalize df:breakStep a (b - a) (1<<<bitsLen (b - a)) (UInt64.ofNat (b - a),d) (a+(b - a)/4*2 - 1)=s1;have z1:s1.2.size=d.size:=by rw[<-df];exact hz _ _
   refine Po (d:=s1.2) (r:=s1.1) m1 m2 a0B a0B a0B a0B ?_;generalize cL:breakStep a (b - a) (1<<<bitsLen (b - a)) s1 (a+(b - a)/4*2 - 1+1)=s2;have z2:s2.2.size=d.size:=by rw[<-cL];exact(hz _ _).trans z1
   refine Po (d:=s2.2) (r:=s2.1) m1 m2 a0B a0B a0B a0B ?_;generalize mX:breakStep a (b - a) (1<<<bitsLen (b - a)) s2 (a+(b - a)/4*2 - 1+2)=s3;exact wr Y<|wo Y (wb (a:=b - a) (b:=4) a0B a0B)<|wo Y (uA (a:=(b - a)/4) (b:=2) a0B)<|wo Y (bm (a:=a) (b:=(b - a)/4*2) a0B)<|wo Y (bm (a:=a+(b - a)/4*2) (b:=1) a0B)<|Wp.rG Y (by rw[kv,f_ a0B])<|wt Y Y
  rw[<-e7] at e8;exact e8
 ·have e:breakPatterns d a b=d:=by
   unfold breakPatterns;exact j_ a0B
  rw[e];exact wt Y Y
end
theorem tw:SWO aC where
 irrefl x:=by unfold aC;exact f_ a0B
 trans x y z h1 h2:=by unfold aC at*;rw[decide_eq_true_eq] at*;omega
 ntrans x y z h1 h2:=by unfold aC at*;rw[decide_eq_false_iff_not] at*;omega
def SQ(a b:Nat)(d:a0v)(o:a0d):Prop:=∃R,o=[.sl (ba R)]/\PermIn a b d R/\SortedIn aC a b R
abbrev xU(d:a0v)(a b l:Nat):a0d:=[.sl (ba d),jD a,jD b,jD l]
abbrev dn(env:a0d)(c:Nat):a0w:=aZ (lk env) (cd c)
theorem fD{x:D}(h:dn env c=some x)(xs:a0d):dn (env++xs) c=some x:=by
 show(((env++xs)[c]?).bind fun x=>if x.cell then some x else none)=some x;have h:((env[c]?).bind fun x=>if x.cell then some x else none)=some x:=h;obtain⟨y,e,h2⟩:=xr.1 h;have hc:=(xe.1 e).1;rw[xw hc];exact h
theorem Cc(h:env.length=n):dn (env++xs) (n+k)=(xs[k]?).bind fun x=>if x.cell then some x else none:=by
 show(((env++xs)[n+k]?).bind fun x=>if x.cell then some x else none)=_;rw[xq a0B,h,Nat.add_sub_cancel_left]
theorem bQ{g:xM->a0w}{v:xM}{l:a0e}{x:D}(h1:g v=some x)(h2:aI g l=some xs):aI g (v::l)=some (x::xs):=by
 unfold aI;rw[h1,h2]
def rI(us:a0e)(t:DT):DT:= .note ⟨.own 1,[.tuple ⟨[.int .i64 10]⟩,.tuple ⟨us⟩],J⟩ t
def Ud(n l h:Nat):DT:=rI [cd (n+2),cd 1,cd n,cd l] (.call 112 178 [cd (n+2),cd 1,cd n,cd l] [no] (.op (.bin .add 0) [cd n,.int .i64 1] (.jump h 0 [10] [cd (n+6),cd (n+7),cd 2,cd l] [cd (n+6),cd (n+7),cd 2,cd l])) .stop)
def T4(n l h:Nat):DT:= .op (.bin .add 0) [cd n,.int .i64 1] (rI [cd (n+2),cd (n+6),cd 2,cd l] (.call 112 178 [cd (n+2),cd (n+6),cd 2,cd l] [no] (.jump h 0 [10] [cd (n+7),cd 1,cd n,cd l] [cd (n+7),cd 1,cd n,cd l]) .stop))
def Rm(n L l h h':Nat):DT:= .op (.bin .sub 0) [cd n,cd 1] (.op (.bin .sub 0) [cd 2,cd n] (.op (.bin .quo 0) [cd L,.int .i64 8] (.br (.bin .lss 0) [cd (n+3),cd (n+4)] (.br (.bin .geq 0) [cd (n+3),cd (n+5)] (Ud n l h) (Ud n l h')) (.br (.bin .geq 0) [cd (n+4),cd (n+5)] (T4 n l h) (T4 n l h')))))
def Vp(n D P L l:Nat):DT:= .call 160 177 [cd D,cd 1,cd 2,cd P] [no,tt,no] (Rm n L l 1 2) (.call 160 177 [cd D,cd 1,cd 2,cd P] [no,ff,no] (Rm n L l 3 4) .stop)
def FT(n D P L l h:Nat):DT:= .br (.bin .gtr 0) [cd 1,.int .i64 0] (.op (.bin .sub 0) [cd 1,.int .i64 1] (.br .jf [cd 0,cd n] (.aV (.qK 0 3 true) [cd D,cd n] [no,no,no] (.br .jf [cd 0,cd P] (.aV (.qK 0 3 true) [cd D,cd P] [no,no,no] (.note ⟨.own 1,[.tuple ⟨[]⟩,.tuple ⟨[cd (n+1),cd (n+2),cd (n+3),cd (n+4),cd (n+5),cd (n+6)]⟩],J⟩ (.call 48 132 [cd (n+1),cd (n+2),cd (n+3),cd (n+4),cd (n+5),cd (n+6)] [no] (.br (.bin .lss 0) [cd (n+7),.int .i64 0] (rI [cd D,cd 1,cd 2,cd P] (Vp (n+8) D P L l)) (rI [cd D,cd 1,cd 2,cd P] (.call 159 176 [cd D,cd 1,cd 2,cd P] [no,no] (.jump h 0 [10] [cd (n+9),cd (n+8),cd 2,cd l] [cd (n+9),cd (n+8),cd 2,cd l]) .stop))) .stop)) .stop) .stop) .stop) .stop)) (rI [cd D,cd 1,cd 2,cd P] (Vp n D P L l))
section
variable{q g l:Nat}{lim:Nat}
def Ih(X:a0a)(z:Nat):Prop:=∀(h a b:Nat) (d:a0v) (lim:Nat),h<=4->b - a<z->a<=b->b<=d.size->d.size<=1000000->lim<=1000->Sort.Below aC a b d->Rn F X 178 h (xU d a b lim) (SQ a b d)
structure vM (env:a0d) (n c q g l:Nat) (d:a0v) (a b p lim:Nat):Prop where
 en:env.length=n
 ea:dn env 1=some (jD a)
 eb:dn env 2=some (jD b)
 ec:dn env c=some (.sl (ba d))
 eq:dn env q=some (jD p)
 eg:dn env g=some (jD (b - a))
 el:dn env l=some (jD lim)
theorem vM.more(h:vM env n c q g l d a b p lim){m:Nat}(hm:xs.length=m):vM (env++xs) (n+m) c q g l d a b p lim:=
 ⟨by rw[xa,h.en,hm],fD h.ea xs,fD h.eb xs,fD h.ec xs,fD h.eq xs,fD h.eg xs,fD h.el xs⟩
theorem ZA(h:vM env n c q g l d a b p lim){x3 x4 x5:Nat}{ap:D}(hh:h'<=4)(eC:Ih X (b - a))(hl:lim<=1000)(h9:b<=1000000)(g1:a<=fh)(g2:fh<b)(hb:b<=d4.size)(hd:d4.size<=1000000)(hB:Sort.Below aC a fh d4)
 (By:∀L,PermIn a fh d4 L->SortedIn aC a fh L->Sort.Below aC (fh+1) b L/\∀R,PermIn (fh+1) b L R->SortedIn aC (fh+1) b R->PermIn a b d R/\SortedIn aC a b R):
 Wp F X 178 (Ud n l h') (env++[jD fh,ap,.sl (ba d4),jD x3,jD x4,jD x5]) (SQ a b d):=by
 have hn:=fun xs k=>Cc (xs:=xs) (k:=k) h.en
 refine Wp.note (Wp.call (ds:=xU d4 a fh lim) (bQ (hn _ 2) (bQ (fD h.ea _) (bQ (hn _ 0) (bQ (fD h.el _) rfl)))) (eC 0 a fh d4 lim a0B a0B g1 a0B hd hl hB) fun o ho=> .inl ?_);obtain⟨R,rfl,r1,r2⟩:=ho;obtain⟨q1,q2⟩:=By R r1 r2;refine⟨rfl,?_⟩;rw[a_];refine e_ (ds:=[jD fh,jD 1]) (bQ (hn _ 0) rfl) (bm a0B) rfl ?_;rw[a_];refine b_ (ds:=xU R (fh+1) b lim) (bQ (hn _ 6) (bQ (hn _ 7) (bQ (fD h.eb _) (bQ (fD h.el _) rfl)))) ((eC h' (fh+1) b R lim hh a0B a0B (by rw[r1.1];exact hb) (by rw[r1.1];exact hd) hl q1).mono ?_);rintro o ⟨S,rfl,s1,s2⟩;exact⟨S,rfl,q2 S s1 s2⟩
theorem Zf(h:vM env n c q g l d a b p lim){x3 x4 x5:Nat}{ap:D}(hh:h'<=4)(eC:Ih X (b - a))(hl:lim<=1000)(h9:b<=1000000)(g1:a<=fh)(g2:fh<b)(hb:b<=d4.size)(hd:d4.size<=1000000)(hB:Sort.Below aC (fh+1) b d4)
 (KY:∀L,PermIn (fh+1) b d4 L->SortedIn aC (fh+1) b L->Sort.Below aC a fh L/\∀R,PermIn a fh L R->SortedIn aC a fh R->PermIn a b d R/\SortedIn aC a b R):
 Wp F X 178 (T4 n l h') (env++[jD fh,ap,.sl (ba d4),jD x3,jD x4,jD x5]) (SQ a b d):=by
 have hn:=fun xs k=>Cc (xs:=xs) (k:=k) h.en
 refine e_ (ds:=[jD fh,jD 1]) (bQ (hn _ 0) rfl) (bm a0B) rfl ?_;rw[a_];refine Wp.note (Wp.call (ds:=xU d4 (fh+1) b lim) (bQ (hn _ 2) (bQ (hn _ 6) (bQ (fD h.eb _) (bQ (fD h.el _) rfl)))) (eC 0 (fh+1) b d4 lim a0B a0B a0B hb hd hl hB) fun o ho=> .inl ?_);obtain⟨R,rfl,r1,r2⟩:=ho;obtain⟨q1,q2⟩:=KY R r1 r2;refine⟨rfl,?_⟩;rw[a_];refine b_ (ds:=xU R a fh lim) (bQ (hn _ 7) (bQ (fD h.ea _) (bQ (hn _ 0) (bQ (fD h.el _) rfl)))) ((eC h' a fh R lim hh a0B g1 (by rw[r1.1];omega) (by rw[r1.1];exact hd) hl q1).mono ?_);rintro o ⟨S,rfl,s1,s2⟩;exact⟨S,rfl,q2 S s1 s2⟩
theorem Xo(h:vM env n c q g l d a b p lim){h1 h2:Nat}{ap:Bool}(hh1:h1<=4)(IZ:h2<=4)(eC:Ih X (b - a))(hl:lim<=1000)(pP:a<=p)(aO:p<b)(hb:b<=d.size)(hd:d.size<=1000000)(hB:Sort.Below aC a b d)(hx:partition aC d a b p=(fh,ap,d4)):
 Wp F X 178 (Rm n g l h1 h2) (env++[jD fh,.bool ap,.sl (ba d4)]) (SQ a b d):=by
 have hn:=fun xs k=>Cc (xs:=xs) (k:=k) h.en
 obtain⟨g1,g2,pN,hBa,hBr,By,KY⟩:=round_part tw (partition_holds _) pP aO hb hB hx;refine e_ (ds:=[jD fh,jD a]) (bQ (hn _ 0) (bQ (fD h.ea _) rfl)) (eW g1 a0B) rfl ?_;rw[a_];refine e_ (ds:=[jD b,jD fh]) (bQ (fD h.eb _) (bQ (hn _ 0) rfl)) (eW a0B a0B) rfl ?_;rw[a_];refine e_ (ds:=[jD (b - a),jD 8]) (bQ (fD h.eg _) rfl) (wb a0B a0B) rfl ?_;rw[a_];refine d_ (ds:=[jD (fh - a),jD (b - fh)]) (bQ (hn _ 3) (bQ (hn _ 4) rfl)) ai (fun _=> ?_) (fun _=> ?_)
 ·refine d_ (ds:=[jD (fh - a),jD ((b - a)/8)]) (bQ (hn _ 3) (bQ (hn _ 5) rfl)) fp (fun _=> ?_) (fun _=> ?_)
  ·exact ZA h hh1 eC hl a0B g1 g2 a0B a0B hBa By
  ·exact ZA h IZ eC hl a0B g1 g2 a0B a0B hBa By
 ·refine d_ (ds:=[jD (b - fh),jD ((b - a)/8)]) (bQ (hn _ 4) (bQ (hn _ 5) rfl)) fp (fun _=> ?_) (fun _=> ?_)
  ·exact Zf h hh1 eC hl a0B g1 g2 a0B a0B hBr KY
  ·exact Zf h IZ eC hl a0B g1 g2 a0B a0B hBr KY
theorem Z1(h:vM env n c q g l d a b p lim)(eC:Ih X (b - a))(hl:lim<=1000)(pP:a<=p)(aO:p<b)(hb:b<=d.size)(hd:d.size<=1000000)(hB:Sort.Below aC a b d):Wp F X 178 (Vp n c q g l) env (SQ a b d):=by
 have e:aI (aZ (lk env)) [cd c,cd 1,cd 2,cd q]=some [.sl (ba d),jD a,jD b,jD p]:=bQ h.ec (bQ h.ea (bQ h.eb (bQ h.eq rfl)));refine Wp.call e (aa0 pP aO hb hd) ?_;rintro o rfl;cases hx:(partition aC d a b p).2.1 with
 |true=>exact .inl ⟨rfl,Xo h a0B a0B eC hl pP aO hb hd hB (by rw[<-hx])⟩
 |false=>
  refine .inr ⟨rfl,Wp.jU e (aa0 pP aO hb hd) (by rw[hx];rfl) ?_⟩;rw[hx];exact Xo h a0B a0B eC hl pP aO hb hd hB (by rw[<-hx])
theorem G8(h:vM env n c q g l d a b p lim){r0:a0v}(h0:dn env 0=some (.sl (ba r0)))(fG:r0.size=d.size)(hh:h'<=4)(eC:Ih X (b - a))(hl:lim<=1000)(pP:a<=p)(aO:p<b)(hb:b<=d.size)(hd:d.size<=1000000)(hB:Sort.Below aC a b d):Wp F X 178 (FT n c q g l h') env (SQ a b d):=by
 refine d_ (ds:=[jD a,jD 0]) (bQ h.ea rfl) cg (fun ha=> ?_) (fun _=>Wp.note (Z1 h eC hl pP aO hb hd hB));have hn:=fun xs k=>Cc (xs:=xs) (k:=k) h.en
 refine e_ (ds:=[jD a,jD 1]) (bQ h.ea rfl) (eW a0B a0B) rfl<|Wp.nV (ds:=[.sl (ba r0),jD (a - 1)]) (bQ (fD h0 _) (bQ (hn _ 0) rfl)) (G1 a0B)<|Wp.aV (ds:=[.sl (ba d),jD (a - 1)]) (bQ (fD h.ec _) (bQ (hn _ 0) rfl)) (Qw a0B) rfl ?_;rw[a_];refine Wp.nV (ds:=[.sl (ba r0),jD p]) (bQ (fD h0 _) (bQ (fD h.eq _) rfl)) (G1 a0B)<|Wp.aV (ds:=[.sl (ba d),jD p]) (bQ (fD h.ec _) (bQ (fD h.eq _) rfl)) (Qw a0B) rfl ?_;rw[a_];have e:aI (aZ (lk (env++(jD (a - 1)::(d[a - 1]!).r++(d[p]!).r)))) [cd (n+1),cd (n+2),cd (n+3),cd (n+4),cd (n+5),cd (n+6)]=some ((d[a - 1]!).r++(d[p]!).r):=bQ (hn _ 1) (bQ (hn _ 2) (bQ (hn _ 3) (bQ (hn _ 4) (bQ (hn _ 5) (bQ (hn _ 6) rfl)))));refine W.lt (x:=d[a - 1]!) (y:=d[p]!) e ?_ (fun _=> ?_) (fun bk=> ?_)
 ·rw[a_];exact bQ (hn _ 7) rfl
 ·rw[a_];exact Wp.note (Z1 (h.more rfl) eC hl pP aO hb hd hB)
 ·rw[a_];have hk:=h.more (xs:=jD (a - 1)::(d[a - 1]!).r++(d[p]!).r++[iD9 (wV d[a - 1]! d[p]!)]) (m:=8) rfl;have hm:=fun xs k=>Cc (xs:=xs) (k:=k) hk.en
  cases hx:partitionEqual aC d a b p with
  |mk fh d4=>
  obtain⟨g1,g2,pN,hB4,Ig⟩:=round_eq tw (partitionEqual_holds _) a0B pP aO hb hB bk hx;have e1:=bs6 (X:=X) pP aO hb hd;rw[hx] at e1;refine Wp.note (Wp.jU (ds:=[.sl (ba d),jD a,jD b,jD p]) (bQ hk.ec (bQ hk.ea (bQ hk.eb (bQ hk.eq rfl)))) e1 rfl ?_);refine b_ (ds:=xU d4 fh b lim) (bQ (hm _ 1) (bQ (hm _ 0) (bQ (fD hk.eb _) (bQ (fD hk.el _) rfl)))) ((eC h' fh b d4 lim hh a0B g2 a0B a0B hl hB4).mono ?_);rintro o ⟨R,rfl,r1,r2⟩;exact⟨R,rfl,Ig R r1 r2⟩
theorem SQ.tr{d':a0v}{o:a0d}(s:PermIn a b d d')(h:SQ a b d' o):SQ a b d o:=by
 obtain⟨R,e,r1,r2⟩:=h;exact⟨R,e,permIn_trans _ _ _ a b s r1,r2⟩
def CH(n k l h:Nat):DT:=rI [cd k,cd 1,cd 2] (.call 156 174 [cd k,cd 1,cd 2] [no,no,no] (.br (.bin .eql 0) [cd (n+1),.int .i64 2] (rI [cd (n+2),cd 1,cd 2] (.call 157 169 [cd (n+2),cd 1,cd 2] [no] (.op (.bin .sub 0) [cd 2,.int .i64 1] (.op (.bin .sub 0) [cd n,cd 1] (.op (.bin .sub 0) [cd (n+4),cd (n+5)] (FT (n+7) (n+3) (n+6) 4 l h)))) .stop)) (FT (n+3) (n+2) n 4 l h)) .stop)
theorem ag8(h:vM env n c 1 4 l d a b a lim){r0:a0v}(h0:dn env 0=some (.sl (ba r0)))(fG:r0.size=d.size)(hh:h'<=4)(eC:Ih X (b - a))(hl:lim<=1000)(iO:a<b)(hb:b<=d.size)(hd:d.size<=1000000)(hB:Sort.Below aC a b d):Wp F X 178 (CH n c l h') env (SQ a b d):=by
 refine Wp.note (Wp.jU (bQ h.ec (bQ h.ea (bQ h.eb rfl))) (Xk iO hb hd) rfl ?_);have hn:=fun xs k=>Cc (xs:=xs) (k:=k) h.en
 have hc:=choosePivot_holds aC d a b iO;generalize choosePivot aC d a b=r at hc⊢;refine d_ (ds:=[iD9 (Hz r.2),iD9 2]) (bQ (hn _ 1) rfl) ay (fun _=> ?_) (fun _=> ?_)
 ·refine Wp.note (Wp.jU (ds:=[.sl (ba d),jD a,jD b]) (bQ (hn _ 2) (bQ (fD h.ea _) (bQ (fD h.eb _) rfl))) (Zk iO hb hd) rfl ?_);have s:=reverseRange_holds d a b a0B hb;rw[a_];refine e_ (ds:=[jD b,jD 1]) (bQ (fD h.eb _) rfl) (eW a0B a0B) rfl ?_;rw[a_];refine e_ (ds:=[jD r.1,jD a]) (bQ (hn _ 0) (bQ (fD h.ea _) rfl)) (eW hc.1 a0B) rfl ?_;rw[a_];refine e_ (ds:=[jD (b - 1),jD (r.1 - a)]) (bQ (hn _ 4) (bQ (hn _ 5) rfl)) (eW a0B a0B) rfl ?_;rw[a_];exact(G8 (p:=b - 1 - (r.1 - a)) ⟨by rw[xa,h.en];rfl,fD h.ea _,fD h.eb _,hn _ 3,hn _ 6,fD h.eg _,fD h.el _⟩ (fD h0 _) (by rw[s.1];exact fG) hh eC hl a0B a0B (by rw[s.1];exact hb) (by rw[s.1];exact hd) (hB.perm hb s)).mono fun o=>SQ.tr s
 ·exact G8 (p:=r.1) ⟨by rw[xa,h.en];rfl,fD h.ea _,fD h.eb _,hn _ 2,hn _ 0,fD h.eg _,fD h.el _⟩ (fD h0 _) fG hh eC hl hc.1 hc.2 hb hd hB
def PRE(t:DT):DT:= .op (.bin .sub 0) [cd 2,cd 1] (.br (.bin .leq 0) [cd 4,.int .i64 12] (rI [cd 0,cd 1,cd 2] (.call 153 166 [cd 0,cd 1,cd 2] [no] (.ret [10] [cd 5] [cd 5]) .stop)) (.br (.bin .eql 0) [cd 3,.int .i64 0] (rI [cd 0,cd 1,cd 2] (.call 154 168 [cd 0,cd 1,cd 2] [no] (.ret [10] [cd 5] [cd 5]) .stop)) t))
def BRK(t:DT):DT:=rI [cd 0,cd 1,cd 2] (.call 155 170 [cd 0,cd 1,cd 2] [no] (.op (.bin .sub 0) [cd 3,.int .i64 1] t) .stop)
def Vs(k m:Nat)(t:DT):DT:=rI [cd k,cd 1,cd 2] (.call 158 175 [cd k,cd 1,cd 2] [tt,no] (.ret [10] [cd m] [cd m]) (.call 158 175 [cd k,cd 1,cd 2] [ff,no] t .stop))
section
variable(eC:Ih X (b - a))(hl:lim<=1000)(iO:a<=b)(hb:b<=d.size)(hd:d.size<=1000000)(hB:Sort.Below aC a b d)
include iO hb hd in
theorem Lb(h:12<b - a->0<lim->Wp F X 178 t [.sl (ba d),jD a,jD b,jD lim,jD (b - a)] (SQ a b d)):Wp F X 178 (PRE t) (xU d a b lim) (SQ a b d):=by
 refine wo Y (eW (a:=b) (b:=a) iO a0B)<|d_ Y kv (fun _=> ?_) (fun h1=>d_ Y ay (fun _=> ?_) (fun h2=>h a0B a0B))
 ·obtain⟨s1,s2⟩:=insertionSort_holds tw d a b iO hb;exact Wp.note (Wp.jU Y (bj0 (a:=a) (b:=b) hb hd a0B) rfl (wt Y ⟨_,rfl,s1,s2⟩))
 ·obtain⟨s1,s2⟩:=heapSort_holds tw d a b iO hb;exact Wp.note (Wp.jU Y (ba0 (a:=a) (b:=b) a0B hb hd) rfl (wt Y ⟨_,rfl,s1,s2⟩))
include eC hl hb hd hB in
theorem Z4(h1:a<b)(h2:0<lim)(hh:h'<=4):Wp F X 178 (BRK (CH 7 5 6 h')) [.sl (ba d),jD a,jD b,jD lim,jD (b - a)] (SQ a b d):=by
 have s:=breakPatterns_holds d a b a0B hb;refine Wp.note (Wp.jU Y (bp6 (a:=a) (b:=b) a0B hb hd) rfl ?_);refine wo Y (eW (a:=lim) (b:=1) h2 a0B) ?_;exact(ag8 (lim:=lim - 1) ⟨rfl,rfl,rfl,rfl,rfl,rfl,rfl⟩ (r0:=d) rfl s.1.symm hh eC a0B h1 (by rw[s.1];exact hb) (by rw[s.1];exact hd) (hB.perm hb s)).mono fun o=>SQ.tr s
include hb hd hB in
theorem Z2(h1:a<b)(h:vM env n c 1 4 3 d a b a lim)(ht:∀d',PermIn a b d d'->Wp F X 178 t (env++[.bool false,.sl (ba d')]) (SQ a b d)):Wp F X 178 (Vs c (n+1) t) env (SQ a b d):=by
 have hn:=fun xs k=>Cc (xs:=xs) (k:=k) h.en
 have e:aI (aZ (lk env)) [cd c,cd 1,cd 2]=some [.sl (ba d),jD a,jD b]:=bQ h.ec (bQ h.ea (bQ h.eb rfl));obtain⟨s1,s2⟩:=partialInsertionSort_holds tw d a b h1 hb hB;have e1:=aW8 (X:=X) h1 hb hd;generalize partialInsertionSort aC d a b=r at s1 s2 e1;obtain⟨R,v⟩:=r;cases v with
 |true=>exact Wp.note (Wp.jU e e1 rfl (Wp.ret (bQ (hn _ 1) rfl) ⟨_,rfl,s1,s2 rfl⟩))
 |false=>exact Wp.note (Wp.HL e e1 rfl (Wp.jU e e1 rfl (ht R s1)))
include eC hl hb hd hB in
theorem bq4(h1:a<b):Wp F X 178 (rI [cd 0,cd 1,cd 2] (.call 156 174 [cd 0,cd 1,cd 2] [no,no,no] (.br (.bin .eql 0) [cd 6,.int .i64 2] (rI [cd 7,cd 1,cd 2] (.call 157 169 [cd 7,cd 1,cd 2] [no] (.op (.bin .sub 0) [cd 2,.int .i64 1] (.op (.bin .sub 0) [cd 5,cd 1] (.op (.bin .sub 0) [cd 9,cd 10] (Vs 8 13 (FT 14 13 11 4 3 1))))) .stop)) (.br (.bin .eql 0) [cd 6,.int .i64 1] (Vs 7 9 (FT 10 9 5 4 3 1)) (FT 8 7 5 4 3 1))) .stop)) [.sl (ba d),jD a,jD b,jD lim,jD (b - a)] (SQ a b d):=by
 refine Wp.note (Wp.jU Y (Xk h1 hb hd) rfl ?_);have hc:=choosePivot_holds aC d a b h1;generalize choosePivot aC d a b=r at hc⊢;refine d_ (ds:=[iD9 (Hz r.2),iD9 2]) rfl ay (fun _=> ?_) (fun _=>d_ (ds:=[iD9 (Hz r.2),iD9 1]) rfl ay (fun _=> ?_) (fun _=> ?_))
 ·have s:=reverseRange_holds d a b a0B hb;have b2:b<=(reverseRange d a b).size:=by rw[s.1];exact hb
  have d2:(reverseRange d a b).size<=1000000:=by rw[s.1];exact hd
  have B2:=hB.perm hb s;refine Wp.note (Wp.jU Y (Zk h1 hb hd) rfl ?_);refine e_ (ds:=[jD b,jD 1]) rfl (eW a0B a0B) rfl<|e_ (ds:=[jD r.1,jD a]) rfl (eW hc.1 a0B) rfl<|e_ (ds:=[jD (b - 1),jD (r.1 - a)]) rfl (eW a0B a0B) rfl<|Wp.mono (Z2 (c:=8) (n:=12) (lim:=lim) b2 d2 B2 h1 ⟨rfl,rfl,rfl,rfl,rfl,rfl,rfl⟩ fun d' t=>Wp.mono (G8 (d:=d') (p:=b - 1 - (r.1 - a)) (lim:=lim) ⟨rfl,rfl,rfl,rfl,rfl,rfl,rfl⟩ (r0:=d) rfl (by rw[t.1,s.1]) a0B eC hl a0B a0B (by rw[t.1];exact b2) (by rw[t.1];exact d2) (B2.perm b2 t)) fun o=>SQ.tr t) fun o=>SQ.tr s
 ·refine Z2 (c:=7) (n:=8) (lim:=lim) hb hd hB h1 ⟨rfl,rfl,rfl,rfl,rfl,rfl,rfl⟩ fun d' t=>Wp.mono (G8 (d:=d') (p:=r.1) (lim:=lim) ⟨rfl,rfl,rfl,rfl,rfl,rfl,rfl⟩ (r0:=d) rfl t.1.symm a0B eC hl hc.1 hc.2 (by rw[t.1];exact hb) (by rw[t.1];exact hd) (hB.perm hb t)) fun o=>SQ.tr t
 ·exact G8 (p:=r.1) (lim:=lim) ⟨rfl,rfl,rfl,rfl,rfl,rfl,rfl⟩ (r0:=d) rfl rfl a0B eC hl hc.1 hc.2 hb hd hB
include eC hl iO hb hd hB in
theorem Zn:Rn F X 178 1 (xU d a b lim) (SQ a b d):=Rn.of (fd:=te) (t:=bo1) rfl rfl rfl rfl (Lb iO hb hd fun h1 h2=>bq4 eC hl hb hd hB a0B)
include eC hl iO hb hd hB in
theorem bs4:∀h,h<=4->Rn F X 178 h (xU d a b lim) (SQ a b d)
 |1,_=>Zn eC hl iO hb hd hB
 |2,_=>Rn.of (fd:=te) (t:=bo0) rfl rfl rfl rfl (Lb iO hb hd fun h1 h2=>Z4 eC hl hb hd hB a0B h2 a0B)
 |3,_=>Rn.of (fd:=te) (t:=bn9) rfl rfl rfl rfl (Lb iO hb hd fun h1 h2=>ag8 (lim:=lim) ⟨rfl,rfl,rfl,rfl,rfl,rfl,rfl⟩ (r0:=d) rfl rfl a0B eC hl a0B hb hd hB)
 |4,_=>Rn.of (fd:=te) (t:=bn8) rfl rfl rfl rfl (Lb iO hb hd fun h1 h2=>Z4 eC hl hb hd hB a0B h2 a0B)
 |0,_=>Rn.of (fd:=te) (t:=bo2) rfl rfl rfl rfl (b_ Y (Zn eC hl iO hb hd hB))
 |k+5,h=>absurd h a0B
end
theorem ZC:∀z,Ih X z
 |0=>fun h a b d lim _ h0=>absurd h0 a0B
 |z+1=>fun h a b d lim hh h0 iO hb hd hl hB=>bs4 (fun h' a' b' d' bC3 k1 k2=>ZC z h' a' b' d' bC3 k1 a0B) hl iO hb hd hB h hh
theorem aU9(hd:d.size<=1000000):Rn F X 179 0 [.sl (ba d)] (·=[.sl ((d.toList.mergeSort fun x y=> !aC y x).map Nd.r)]):=by
 refine wr Y<|wo Y bf ?_;rw[Yc];refine wo Y (PI (k:= .i64) (n:=d.size) a0B)<|Wp.note (Wp.jU Y (KR hd) rfl ?_);have:=yR (n:=d.size) a0B;refine Wp.note (Wp.call Y (ZC (d.size+1) 0 0 d.size d (bitsLen d.size) a0B a0B a0B a0B hd a0B (Or.inl rfl)) ?_);rintro o ⟨R,rfl,r1,r2⟩;refine .inl ⟨rfl,wt Y ?_⟩;have e:=sorted_unique_holds tw (fun x y h1 h2=> ?_) d R r1 r2
 ·show[D.sl (R.toList.map Nd.r)]=_;rw[e]
 ·unfold aC at h1 h2;rw[decide_eq_false_iff_not] at h1 h2;cases x;cases y;simp only [Nd.mk.injEq] at*;omega
end
theorem Nd.eq_iff{x y:Nd}:x=y↔x.k=y.k/\x.a=y.a/\x.b=y.b:=by
 cases x;cases y;simp
instance:DecidableEq Nd:=fun _ _=>decidable_of_iff _ Nd.eq_iff.symm
def iH(l:a0m):a0m:=l.mergeSort fun x y=> !aC y x
theorem sL(l:a0m):(iH l).Perm l:=List.mergeSort_perm _ _
theorem Qh(l:a0m):(iH l).Pairwise fun x y=>aC y x=false:=by
 have:=List.pairwise_mergeSort (le:=fun x y=> !aC y x) (fun a b c h1 h2=> ?_) (fun a b=> ?_) l
 ·exact this.imp fun h=>by simpa using h
 ·simp only [Bool.not_eq_true'] at*;exact tw.ntrans c b a h2 h1
 ·cases h:aC b a with
  |false=>rfl
  |true=>
   cases h2:aC a b with
   |false=>rfl
   |true=>have:=tw.trans _ _ _ h h2;rw[tw.irrefl] at this;cases this
theorem Xt{x y:Nd}(h1:aC x y=false)(h2:aC y x=false):x=y:=by
 unfold aC at h1 h2;rw[decide_eq_false_iff_not] at h1 h2;rw[Nd.eq_iff];omega
theorem bf2{l m:a0m}(hp:m.Perm l)(hs:m.Pairwise fun x y=>aC y x=false):iH l=m:=
 List.Perm.eq_of_pairwise (le:=fun x y=>aC y x=false) (fun _ _ _ _ h1 h2=>Xt h2 h1) (Qh l) hs ((sL l).trans hp.symm)
theorem JH{l m:a0m}(hp:l.Perm m):iH l=iH m:=bf2 ((sL m).trans hp.symm) (Qh m)
theorem aU8(l:a0m):iH (iH l)=iH l:=JH (sL l)
def C3:List Nd->List Nd|[]=>[]|x::t=>if x∈t then C3 t else x::C3 t
theorem Kk{x:Nd}:∀{l:a0m},x∈C3 l↔x∈l
 |[]=> .rfl
 |y::t=>by
  unfold C3;split
  ·rename_i h;rw[Kk,xG];exact⟨.inr,fun h2=>h2.elim (fun e=>e▸h) id⟩
  ·rw[xG,xG,Kk]
theorem Qz:∀l:a0m,(C3 l).Nodup
 |[]=> .nil
 |y::t=>by
  unfold C3;split
  ·exact Qz t
  ·rename_i h;exact List.nodup_cons.2 ⟨fun h2=>h (Kk.1 h2),Qz t⟩
abbrev G2:=List (Nd×List Nd)
variable{G:G2}
abbrev Nd.rs(l:a0m):a0b:=l.map Nd.r
def ke(p:Nd×a0m):a0d:=[.agg p.1.r,.sl (Nd.rs p.2)]
def bB(G:G2):a0b:=G.map ke
theorem Hc(m n:Nd):kD m.r n.r=decide (n=m):=by
 show(decide (m.k=n.k)&& (decide (m.a=n.a)&& (decide (m.b=n.b)&&true)))=_;rw[Bool.and_true,Bool.eq_iff_iff];simp only [xf,decide_eq_true_eq,Nd.eq_iff];constructor
 ·rintro⟨a,b,c⟩;exact⟨a.symm,b.symm,c.symm⟩
 ·rintro⟨a,b,c⟩;exact⟨a.symm,b.symm,c.symm⟩
theorem Wj(m:Nd)(p:Nd×a0m):lY m.r (ke p)=decide (p.1=m):=Hc m p.1
def mi(m:Nd)(f:List Nd->List Nd)(G:G2):G2:=G.map fun p=>if p.1=m then(p.1,f p.2) else p
theorem yA{m:Nd}:∀{G:G2},cY m.r (bB G)=none->∀p∈G,p.1≠m
 |[],_,p,hp=>nomatch hp
 |q::G,h,p,hp=>by
  have h:(if lY m.r (ke q) then some 0 else(cY m.r (bB G)).map (· +1))=none:=h;rw[Wj] at h;by_cases hq:q.1=m
  ·rw[u_ hq] at h;cases h
  ·rw[f_ hq,j_ Bool.noConfusion] at h;rcases xG.1 hp with rfl|hp
   ·exact hq
   ·exact yA (Option.map_eq_none_iff.1 h) p hp
theorem Jz{m:Nd}:∀{G:G2} {j:Nat},(G.map (·.1)).Nodup->cY m.r (bB G)=some j->∃v,G[j]? =some (m,v)/\∀f,G.set j (m,f v)=mi m f G
 |[],j,_,h=>nomatch h
 |q::G,j,hn,h=>by
  have h:(if lY m.r (ke q) then some 0 else(cY m.r (bB G)).map (· +1))=some j:=h;rw[Wj] at h;have fy:=List.nodup_cons.1 hn;by_cases hq:q.1=m
  ·rw[u_ hq,i_ Y] at h;cases h;obtain⟨q1,q2⟩:=q;subst hq;refine⟨q2,rfl,fun f=> ?_⟩;show(q1,f q2)::G=(if q1=q1 then(q1,f q2) else(q1,q2))::mi q1 f G;rw[i_ Y]
   congr 1
   refine(List.map_congr_left (fun p hp=> ?_)).trans (List.map_id G)|>.symm
   exact j_ fun(e:p.1=q1)=>fy.1 (xJ.2 ⟨p,hp,e⟩)
  ·rw[f_ hq,j_ Bool.noConfusion] at h;obtain⟨i,e,rfl⟩:=xp.1 h;obtain⟨v,e1,e2⟩:=Jz fy.2 e;refine⟨v,e1,fun f=> ?_⟩;show q::G.set i (m,f v)=(if q.1=m then(q.1,f q.2) else q)::mi m f G;rw[j_ hq,e2 f]
theorem W2(m:Nd)(f:List Nd->List Nd)(G:G2):(mi m f G).map (·.1)=G.map (·.1):=by
 unfold mi;rw[List.map_map];refine List.map_congr_left fun p _=> ?_
 show(if p.1=m then(p.1,f p.2) else p).1=p.1;split<;>rfl
def E6(m n:Nd)(G:G2):G2:=if(cY m.r (bB G)).isSome then mi m (· ++[n]) G else G++[(m,[n])]
abbrev KN:a0u:=[.u8,.i64,.i64]
theorem Wv{p:Nd×a0m}(h:G[j]? =some p):(bB G)[j]? =some (ke p):=by
 unfold bB;rw[xx,h];rfl
theorem ZP(hn:(G.map (·.1)).Nodup)(m n:Nd):∃rows v j,aL (.DG KN) [.sl (bB G),.agg m.r]=some (.agg [.sl rows,.sl (Nd.rs v),jD j])/\(v=[]\/(m,v)∈G)/\aL .vY [.sl rows,jD j,.sl (Nd.rs v++[n.r])]=some (.sl (bB (E6 m n G))):=by
 unfold E6;cases h:cY m.r (bB G) with
 |none=>
  refine⟨bB G++[[D.agg m.r,fc]],[],G.length,?_,.inl Y,?_⟩
  ·show(match cY m.r (bB G) with|none=>some (D.agg [.sl (bB G++[[D.agg m.r,fc]]),.sl [],.int .i64 ((bB G).length:Nat)])|some j=>_)=_;rw[h];show some (D.agg [.sl (bB G++[[D.agg m.r,fc]]),.sl [],.int .i64 ((bB G).length:Nat)])=_;rw[show(bB G).length=G.length from xm _];rfl
  ·show(match(bB G++[[D.agg m.r,fc]])[G.length]? with|some [k,_]=>if(D.sl ([]++[n.r])).cell then some (D.sl ((bB G++[[D.agg m.r,fc]]).set G.length [k,.sl ([]++[n.r])])) else none|_=>none)=_;have hl:(bB G).length=G.length:=xm _;rw[xq a0B,hl,Nat.sub_self];show some (D.sl ((bB G++[[D.agg m.r,fc]]).set G.length [.agg m.r,.sl [n.r]]))=some (D.sl (bB (G++[(m,[n])])));rw[<-hl,List.set_append_right _ _ (xk _),Nat.sub_self]
   congr 2
   unfold bB;rw[List.map_append];rfl
 |some j=>
  obtain⟨v,e1,e2⟩:=Jz hn h;have e3:=Wv e1;refine⟨(bB G).set j [D.agg m.r,fc],v,j,?_,?_,?_⟩
  ·show(match cY m.r (bB G) with|none=>_|some j=>match(bB G)[j]? with
    |some [_,.sl rs]=>some (D.agg [.sl ((bB G).set j [D.agg m.r,fc]),.sl rs,.int .i64 (j:Nat)])
    |_=>none)=_
   rw[h];show(match(bB G)[j]? with
    |some [_,.sl rs]=>some (D.agg [.sl ((bB G).set j [D.agg m.r,fc]),.sl rs,.int .i64 (j:Nat)])
    |_=>none)=_
   rw[e3];rfl
  ·exact .inr (xu e1)
  ·have hj:=(xe.1 e3).1;show(match((bB G).set j [D.agg m.r,fc])[j]? with|some [k,_]=>if(D.sl (Nd.rs v++[n.r])).cell then some (D.sl (((bB G).set j [D.agg m.r,fc]).set j [k,.sl (Nd.rs v++[n.r])])) else none|_=>none)=_;rw[List.getElem?_set_self hj];show some (D.sl (((bB G).set j [D.agg m.r,fc]).set j [.agg m.r,.sl (Nd.rs v++[n.r])]))=some (D.sl (bB (mi m (· ++[n]) G)));rw[List.set_set,<-e2]
   congr 2
   unfold bB;rw[List.map_set]
   congr 1
   show[D.agg m.r,D.sl (v.map Nd.r++[n.r])]=[D.agg m.r,D.sl ((v++[n]).map Nd.r)];rw[List.map_append];rfl
theorem Y8(hn:(G.map (·.1)).Nodup)(m:Nd)(f:List Nd->List Nd):∃rows v,aL (.DC KN) [.sl (bB G),.agg m.r]=some (.agg [.sl rows,.sl (Nd.rs v)])/\(v=[]\/(m,v)∈G)/\aL (.DE KN) [.sl rows,.agg m.r,.sl (Nd.rs (f v))]=some (.sl (bB (mi m f G))):=by
 cases h:cY m.r (bB G) with
 |none=>
  have e:mi m f G=G:=(List.map_congr_left fun p hp=>j_ (yA h p hp)).trans (List.map_id G);refine⟨bB G,[],?_,.inl Y,?_⟩
  ·show(match cY m.r (bB G) with|none=>some (D.agg [.sl (bB G),.sl []])|some j=>_)=_;rw[h];rfl
  ·show(match cY m.r (bB G) with|none=>some (D.sl (bB G))|some j=>_)=_;rw[h,e]
 |some j=>
  obtain⟨v,e1,e2⟩:=Jz hn h;have e3:=Wv e1;have hj:=(xe.1 e3).1;have e4:∀(v':D),cY m.r ((bB G).set j [D.agg m.r,v'])=some j:=fun v'=>by
   clear e3 e2 e1 hn
   induction G generalizing j with
   |nil=>cases h
   |cons q G ih=>
    have h:(if lY m.r (ke q) then some 0 else(cY m.r (bB G)).map (· +1))=some j:=h;by_cases hq:lY m.r (ke q)=true
    ·rw[i_ hq] at h;cases h;show(if kD m.r m.r=true then some 0 else _)=some 0;rw[Hc,u_ rfl,i_ Y]
    ·rw[j_ hq] at h;obtain⟨i,e,rfl⟩:=xp.1 h;show(if lY m.r (ke q) then some 0 else(cY m.r ((bB G).set i [D.agg m.r,v'])).map (· +1))=_;rw[j_ hq,ih _ e (Nat.lt_of_succ_lt_succ hj)];rfl
  refine⟨(bB G).set j [D.agg m.r,fc],v,?_,.inr (xu e1),?_⟩
  ·show(match cY m.r (bB G) with|none=>_|some j=>match(bB G)[j]? with
    |some [_,.sl rs]=>some (D.agg [.sl ((bB G).set j [D.agg m.r,fc]),.sl rs])
    |_=>none)=_
   rw[h];show(match(bB G)[j]? with
    |some [_,.sl rs]=>some (D.agg [.sl ((bB G).set j [D.agg m.r,fc]),.sl rs])
    |_=>none)=_
   rw[e3];rfl
  ·show(match cY m.r ((bB G).set j [D.agg m.r,fc]) with|none=>_|some j'=>match((bB G).set j [D.agg m.r,fc])[j']? with
    |some [_,.pC]=>some (D.sl (((bB G).set j [D.agg m.r,fc]).set j' [D.agg m.r,.sl (Nd.rs (f v))]))
    |_=>none)=_
   rw[e4];show(match((bB G).set j [D.agg m.r,fc])[j]? with
    |some [_,.pC]=>some (D.sl (((bB G).set j [D.agg m.r,fc]).set j [D.agg m.r,.sl (Nd.rs (f v))]))
    |_=>none)=_
   rw[List.getElem?_set_self hj];show some (D.sl (((bB G).set j [D.agg m.r,fc]).set j [D.agg m.r,.sl (Nd.rs (f v))]))=_;rw[List.set_set,<-e2]
   congr 2
   unfold bB;rw[List.map_set];rfl
def tg(k:Nd)(es:a0i):a0m:=(es.filter fun e=>decide (e.1=k)).map (·.2)
def LA(es:a0i):a0m:=C3 (iH (es.map (·.1)))
def nx(es:a0i):a0b:=tK (bB ((LA es).map fun k=>(k,iH (tg k es))))
theorem Yp{es es':a0i}(h:es.Perm es'):nx es=nx es':=by
 have e1:LA es=LA es':=by unfold LA;rw[JH (h.map _)]
 have e2:∀k,iH (tg k es)=iH (tg k es'):=fun k=>JH ((h.filter _).map _)
 unfold nx;rw[e1];simp only [e2]
theorem Yw(p q:Nd×a0m):M9 (ke p) (ke q)=aC p.1 q.1:=by
 show(decide (p.1.k<q.1.k)||(decide (p.1.k=q.1.k)&& (decide (p.1.a<q.1.a)||(decide (p.1.a=q.1.a)&& (decide (p.1.b<q.1.b)||(decide (p.1.b=q.1.b)&&false))))))=_;unfold aC;rw[Bool.eq_iff_iff];simp only [Bool.or_eq_true,xf,decide_eq_true_eq,Bool.and_false,Bool.false_eq_true,or_false]
theorem Yz:∀{G:G2},(G.map (·.1)).Nodup->∀{p q:Nd×a0m},p∈G->q∈G->p.1=q.1->p=q
 |[],_,_,_,h,_,_=>nomatch h
 |x::G,hn,p,q,hp,hq,e=>by
  have fy:=List.nodup_cons.1 hn;rcases xG.1 hp with rfl|hp<;>rcases xG.1 hq with rfl|hq
  ·rfl
  ·exact absurd (xJ.2 ⟨q,‹q∈G›,e.symm⟩:p.1∈G.map (·.1)) fy.1
  ·exact absurd (xJ.2 ⟨p,‹p∈G›,e⟩:q.1∈G.map (·.1)) fy.1
  ·exact Yz fy.2 hp hq e
theorem bc5{G':G2}(hp:G.Perm G')(hn:(G.map (·.1)).Nodup):tK (bB G)=tK (bB G'):=by
 have key:∀G:G2,∃H:G2,H.Perm G/\tK (bB G)=bB H/\H.Pairwise fun x y=>aC y.1 x.1=false:=by
  intro G
  induction G with
  |nil=>exact⟨[],.refl _,rfl,.nil⟩
  |cons p G ih=>
   obtain⟨H,h1,h2,h3⟩:=ih;have ins:∀(H:G2),(H.Pairwise fun x y=>aC y.1 x.1=false)->∃H':G2,H'.Perm (p::H)/\zK (ke p) (bB H)=bB H'/\H'.Pairwise fun x y=>aC y.1 x.1=false:=by
    intro H
    induction H with
    |nil=>exact fun _=>⟨[p],.refl _,rfl,.cons (fun _ h=>nomatch h) .nil⟩
    |cons q H ih=>
     intro hs;have ko:=List.pairwise_cons.1 hs;cases hl:aC p.1 q.1 with
     |true=>
      refine⟨p::q::H,.refl _,?_,?_⟩
      ·show(if M9 (ke p) (ke q) then ke p::ke q::bB H else ke q::zK (ke p) (bB H))=_;rw[Yw,hl];rfl
      ·refine List.pairwise_cons.2 ⟨fun y hy=> ?_,hs⟩;rcases xG.1 hy with rfl|hy
       ·exact tw.asymmA hl
       ·cases hz:aC y.1 p.1 with
        |false=>rfl
        |true=>have:=tw.trans _ _ _ hz hl;rw[ko.1 y hy] at this;cases this
     |false=>
      obtain⟨H',k1,k2,k3⟩:=ih ko.2;refine⟨q::H',(k1.cons q).trans (.swap p q H),?_,?_⟩
      ·show(if M9 (ke p) (ke q) then ke p::ke q::bB H else ke q::zK (ke p) (bB H))=_;rw[Yw,hl,k2];rfl
      ·refine List.pairwise_cons.2 ⟨fun y hy=> ?_,k3⟩;rcases xG.1 (k1.mem_iff.1 hy) with rfl|hy
       ·exact hl
       ·exact ko.1 y hy
   obtain⟨H',k1,k2,k3⟩:=ins H h3;exact⟨H',k1.trans (h1.cons p),by show zK (ke p) (tK (bB G))=_;rw[h2,k2],k3⟩
 obtain⟨H,a1,a2,a3⟩:=key G;obtain⟨H',b1,b2,b3⟩:=key G';rw[a2,b2]
 congr 1
 refine List.Perm.eq_of_pairwise (le:=fun x y:Nd×a0m=>aC y.1 x.1=false) (fun x y hx hy h1 h2=> ?_) a3 b3 (a1.trans (hp.trans b1.symm));have e:=Xt h2 h1;have hx:=a1.mem_iff.1 hx;have hy:=hp.mem_iff.2 (b1.mem_iff.1 hy);exact Yz hn hx hy e
end Go.Proofs.YthicpeihkkokmaaGreatDoor
