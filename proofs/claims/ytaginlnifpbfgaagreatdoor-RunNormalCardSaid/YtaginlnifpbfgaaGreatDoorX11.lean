/- A verified evaluator of Go functions. -/
import Derived.Test.YtaginlnifpbfgaaGreatDoorX10
import Derived.Test.YtaginlnifpbfgaaGreatDoorX9
import Derived.Deep.Slices
import Derived.Deep.Strs
set_option linter.unusedVariables false
set_option linter.unusedSimpArgs false
namespace Go.Ex
open Go.RowKit
noncomputable section
def bQ1(l:List xM):Option (List Nat):=
 List.rec (motive:=fun _=>Option (List Nat)) (some []) (fun v _ ih=>match v,ih with| .int _ (.ofNat n),some r=>some (n::r)|_,_=>none) l
def Qz(f:ao→Option ao)(l:List ao):Option (List ao):=
 List.rec (motive:=fun _=>Option (List ao)) (some []) (fun v _ ih=>match f v with|some u=>(match ih with|some us=>some (u::us)|none=>none)|none=>none) l
def wM{α:Type}(l:List α):Nat→List α:=
 List.rec (motive:=fun _=>Nat→List α) (fun _=>[]) (fun x _ ih n=>Nat.rec (motive:=fun _=>List α) [] (fun m _=>x::ih m) n) l
def sA{α:Type}(l:List α):Nat→List α:=
 List.rec (motive:=fun _=>Nat→List α) (fun _=>[]) (fun x t ih n=>Nat.rec (motive:=fun _=>List α) (x::t) (fun m _=>ih m) n) l
def Il(c:Nat):Nat→List Nat:=Nat.rec (motive:=fun _=>Nat→List Nat) (fun _=>[]) (fun _ ih n=>n::ih (Nat.succ n)) c
theorem Oy{α:Type}:∀(l:List α) (n:Nat),wM l n=l.take n
 |[],n=>by simp[wM]
 |x::l,0=>rfl
 |x::l,n+1=>by show x::wM l n=_;rw[Oy l n];rfl
theorem OP{α:Type}:∀(l:List α) (n:Nat),sA l n=l.drop n
 |[],n=>by simp[sA]
 |x::l,0=>rfl
 |x::l,n+1=>by show sA l n=_;rw[OP l n];rfl
theorem Wm:∀(c n:Nat),(Il c n).length=c
 |0,n=>rfl
 |c+1,n=>by show(n::Il c (n+1)).length=_;simp[Wm c]
theorem Wn:∀(c n j x:Nat),(Il c n)[j]? =some x→x=n+j
 |0,n,j,x,h=>by
  have h':([]:List Nat)[j]? =some x:=h;simp at h'
 |c+1,n,j,x,h=>by
  have h':(n::Il c (n+1))[j]? =some x:=h;cases j with
  |zero=>simp at h';omega
  |succ j=>simp at h';have:=Wn c (n+1) j x h';omega
theorem U3{f:ao→Option ao}:∀{l r:List ao},Qz f l=some r→l.length=r.length∧∀(i:Nat) (v u:ao),l[i]? =some v→r[i]? =some u→f v=some u
 |[],r,h=>by cases h;exact⟨rfl,fun i v u hv=>by simp at hv⟩
 |x::l,r,h=>by
  have h':(match f x with|some u=>(match Qz f l with|some us=>some (u::us)|none=>none)|none=>none)=some r:=h;split at h'
  ·rename_i u hu;split at h'
   ·rename_i us od;cases h';obtain⟨k1,k2⟩:=U3 od;refine⟨by simp[k1],fun i a b ha hb=> ?_⟩;cases i with
    |zero=>simp at ha hb;subst ha;subst hb;exact hu
    |succ i=>simp at ha hb;exact k2 i a b ha hb
   ·cases h'
  ·cases h'
def x7(ρ:List Nat):List ao→AW→AW:=
 List.rec (motive:=fun _=>List ao→AW→AW) (fun _ A=>A)
  (fun x _ ih os A=>List.rec (motive:=fun _=>AW) (ih [] (bs (Nat.beq x cJ) A (A.put x none))) (fun o Fm _=>ih Fm (bs (Nat.beq x cJ) A (A.put x (some o)))) os) ρ
def Cj(l:List ao):AW→AW:=List.rec (motive:=fun _=>AW→AW) (fun A=>A) (fun b _ ih A=>ih (A.add b)) l
theorem C1:∀(ρ:List Nat) (os:List ao) (A:AW),(x7 ρ os A).next=A.next∧(x7 ρ os A).tape=A.tape
 |[],os,A=>⟨rfl,rfl⟩
 |x::ρ,[],A=>by
  have h:=C1 ρ [] (bs (Nat.beq x cJ) A (A.put x none));have e:(bs (Nat.beq x cJ) A (A.put x none)).next=A.next∧(bs (Nat.beq x cJ) A (A.put x none)).tape=A.tape:=by cases Nat.beq x cJ<;>exact⟨rfl,rfl⟩
  exact⟨h.1.trans e.1,h.2.trans e.2⟩
 |x::ρ,o::os,A=>by
  have h:=C1 ρ os (bs (Nat.beq x cJ) A (A.put x (some o)));have e:(bs (Nat.beq x cJ) A (A.put x (some o))).next=A.next∧(bs (Nat.beq x cJ) A (A.put x (some o))).tape=A.tape:=by cases Nat.beq x cJ<;>exact⟨rfl,rfl⟩
  exact⟨h.1.trans e.1,h.2.trans e.2⟩
theorem OI:∀(ρ:List Nat) (os:List ao) (A:AW) (B:Nat) (aj:ao),(x7 ρ os A).get B=some aj→(∃i:Nat,ρ[i]? =some B∧B≠cJ∧os[i]? =some aj)∨((∀i:Nat,ρ[i]? =some B→B=cJ)∧A.get B=some aj)
 |[],os,A,B,aj,h=> .inr ⟨fun i=>by simp,h⟩
 |x::ρ,os,A,B,aj,h=>by
  have step:∀(o:Option ao) (Fm:List ao),(x7 ρ Fm (bs (Nat.beq x cJ) A (A.put x o))).get B=some aj→(∃i:Nat,ρ[i]? =some B∧B≠cJ∧Fm[i]? =some aj)∨(B=x∧x≠cJ∧o=some aj)∨((∀i:Nat,(x::ρ)[i]? =some B→B=cJ)∧A.get B=some aj):=fun o Fm h=>by
   rcases OI ρ Fm _ B aj h with h1|⟨h1,h2⟩
   ·exact .inl h1
   ·have bA:(B=x→B=cJ)→∀i:Nat,(x::ρ)[i]? =some B→B=cJ:=fun hx i hi=>by
     cases i with
     |zero=>simp at hi;exact hx hi.symm
     |succ i=>exact h1 i (by simpa using hi)
    cases hb:Nat.beq x cJ with
    |true=>
     rw[hb,eg] at h2;have:=xb hb;exact .inr (.inr ⟨bA (fun e=>e.trans this),h2⟩)
    |false=>
     rw[hb,gN] at h2;rcases A.ja x o B with⟨e,e2⟩|⟨e,_⟩|⟨e,e2⟩
     ·rw[e] at h2;exact .inr (.inl ⟨e2,Gx hb,h2⟩)
     ·rw[e] at h2;cases h2
     ·rw[e] at h2;exact .inr (.inr ⟨bA (fun e=>absurd e e2),h2⟩)
  cases os with
  |nil=>
   rcases step none [] h with⟨i,h1,_,h2⟩|⟨_,_,h2⟩|h1
   ·simp at h2
   ·cases h2
   ·exact .inr h1
  |cons o os=>
   rcases step (some o) os h with⟨i,h1,h3,h2⟩|⟨h1,h3,h2⟩|h1
   ·exact .inl ⟨i+1,by simpa using h1,h3,by simpa using h2⟩
   ·exact .inl ⟨0,by simp[h1],by rw[h1];exact h3,by simpa using h2⟩
   ·exact .inr h1
theorem Js:∀(l:List ao) (A:AW),(Cj l A).next=A.next+l.length∧(Cj l A).tape=A.tape
 |[],A=>⟨rfl,rfl⟩
 |b::l,A=>by
  have h:=Js l (A.add b);have e:(A.add b).next=A.next+1:=rfl;exact⟨h.1.trans (by rw[e];simp;omega),h.2⟩
theorem Wf:∀(l:List ao) (A:AW),(∀B,A.next≤B→A.get B=none)→∀(B:Nat) (aj:ao),(Cj l A).get B=some aj→(∃j:Nat,B=A.next+j∧l[j]? =some aj)∨(B<A.next∧A.get B=some aj)
 |[],A,hA,B,aj,h=> .inr ⟨Nat.lt_of_not_le (fun ek=>by rw[show(Cj [] A).get B=A.get B from rfl,hA B ek] at h;cases h),h⟩
 |b::l,A,hA,B,aj,h=>by
  have hn:∀C,(A.add b).get C=some b∧C=A.next∨(A.add b).get C=A.get C:=A.tG b (hA _ (xk _));have bA:∀C,C≠A.next→(A.add b).get C=A.get C:=fun C hC=>(hn C).resolve_left fun e=>hC e.2
  rcases Wf l (A.add b) (fun C hC=>by
   have hC:A.next+1≤C:=hC;rw[bA C (by omega)];exact hA C (by omega)) B aj h with⟨j,h1,h2⟩|⟨h1,h2⟩
  ·have h1:B=A.next+1+j:=h1;exact .inl ⟨j+1,by omega,by simpa using h2⟩
  ·rcases hn B with⟨e,e2⟩|e
   ·rw[e] at h2;exact .inl ⟨0,by omega,by simpa using h2⟩
   ·rw[e] at h2;have h1:B<A.next+1:=h1;by_cases hB:B=A.next
    ·rw[hB,hA _ (xk _)] at h2;cases h2
    ·exact .inr ⟨by omega,h2⟩
def Pk(b:ao):Bool:=match b.obj with| .cells _=>true| .map _ _=>true|_=>false
def RV(ρ:List Nat)(hp':List ao)(nob:Nat):Bool:=
 Nat.rec (motive:=fun _=>Bool) true (fun i ih=>bs ((match dB ρ i with|some x=>bs (Nat.beq x cJ) false true|none=>false)&& (match dB hp' i with|some b=>Pk b|none=>false)) ih false) nob
theorem Vp{ρ:List Nat}{hp':List ao}:∀{nob:Nat},RV ρ hp' nob=true→(∀i,i<nob→(∃x,ρ[i]? =some x∧x≠cJ)∧∃b,hp'[i]? =some b∧qj b)
 |0,_,i,h=>by omega
 |n+1,h,i,hi=>by
  have h':bs ((match dB ρ n with|some x=>bs (Nat.beq x cJ) false true|none=>false)&& (match dB hp' n with|some b=>Pk b|none=>false)) (RV ρ hp' n) false=true:=h;rcases au h' with⟨h1,h2⟩|⟨_,h2⟩
  ·rcases Nat.lt_succ_iff_lt_or_eq.1 hi with h3|rfl
   ·exact Vp h2 i h3
   ·rw[xf,eM,eM] at h1;obtain⟨h4,h5⟩:=h1;refine⟨?_,?_⟩
    ·split at h4
     ·rename_i x hx;refine⟨x,hx,?_⟩;rcases au h4 with⟨_,e⟩|⟨e,_⟩
      ·cases e
      ·exact Gx e
     ·cases h4
    ·split at h5
     ·rename_i b hb;refine⟨b,hb,fun c hc=> ?_⟩;unfold Pk at h5;rw[hc] at h5;cases h5
     ·cases h5
  ·cases h2
def Aq(nob n:Nat)(ρ:List Nat)(m:Nat):List Nat:=aa (wM ρ nob) (Il (Nat.sub m nob) n)
def ap4(G:Nat)(sg:aD)(ρ:List Nat)(res:List xM)(A:AW):aZ xM:=
 match RC G sg.nob (Aq sg.nob A.next ρ (bI sg.hp')) res sg.rv,Qz (x3 G sg.nob (Aq sg.nob A.next ρ (bI sg.hp')) res) sg.hp' with
 |some v,some l=>some [(v,Cj (sA l sg.nob) (x7 ρ (wM l sg.nob) A))]
 |_,_=>none
def LO(L:List (Option ao))(k:Nat)(S:List (Nat×aD))(t:cT)(args:List xM)(A:AW):aZ xM:=
 match t with
 | .rd _=>none
 | .dy _=>none
 | .fn f=>match A.tape with
  |[]=>none
  |Aw::r0=>match Aw.args with
   |[.tuple ⟨rl⟩,.tuple ⟨aO⟩]=>match bQ1 rl with
    |none=>none
    |some ρ=>match oU (ng (bI L) FZ) aO (A.pop r0) with
     |none=>none
     |some (us,A1)=>match A1.tape with
      |[]=>none
      |nd::r=>match nd.k,nd.res with
       | .uc g i,.tuple ⟨res⟩=>match dB S i with
        |none=>none
        |some (g',sg)=>bs (uf Aw.k (.own 1)&&Nat.beq g f&&Nat.beq g' f&&kK us nd.args&&GR (bI L) ρ aO A1 sg.args args&&BE L (nR sg.hp) ρ aO .nil A1&&RV ρ sg.hp' sg.nob&&Nat.blt A1.next cJ&&Nat.blt (Nat.add (bI L) (bI sg.hp')) (Nat.pow 2 k))
         (ap4 (bI L) sg ρ res (A1.pop r)) none
       |_,_=>none
   |_=>none
def KA(P:Program)(LL:World→Prop)(k:Nat)(L:List (Option ao))(S:List (Nat×aD))(δ:Nat→Option D)(nd:Node):Prop:=
 match nd.k,nd.res with
 | .uc g i,.tuple ⟨res⟩=>∃sg ds cA,S[i]? =some (g,sg)∧aX (bP δ) nd.args=some ds∧aX (gi δ) res=some cA∧v9 P LL k L g sg ds cA
 |_,_=>False
section
variable{P:Program}{E:aq}(ok:E.Ok P){L:List (Option ao)}{Q:(Nat→Option D)→Node→Prop}{LL:World→Prop}(hG:E.G=⟨L.length,Q,LL⟩)(hL:HI L){k:Nat}{S:List (Nat×aD)}
theorem aV5{nob n m:Nat}{ρ:List Nat}(h1:∀i,i<nob→∃x,ρ[i]? =some x∧x≠cJ)(h2:nob≤m):(Aq nob n ρ m).length=m∧∀(j x:Nat),(Aq nob n ρ m)[j]? =some x→x=ED nob n ρ j:=by
 have hl:nob≤ρ.length:=by
  cases nob with
  |zero=>omega
  |succ q=>
   obtain⟨x,hx,_⟩:=h1 q (by omega);have:=(xe.1 hx).1;omega
 unfold Aq;rw[jm,Oy];have hm:Nat.sub m nob=m - nob:=rfl;refine⟨by rw[xa,xz,Wm,hm];omega,fun j x h=> ?_⟩;unfold ED;by_cases hj:j<nob
 ·rw[xw (by rw[xz];omega),List.getElem?_take,if_pos hj] at h;rw[if_pos hj,List.getD_eq_getElem?_getD,h];rfl
 ·rw[xq (by rw[xz];omega),xz,show min nob ρ.length=nob by omega] at h;rw[if_neg hj,Wn _ _ _ _ h]
include ok hG hL in
theorem bd6(hC:∀δ nd g i,nd.k= .uc g i→E.G.Q δ nd→KA P LL k L S δ nd):fG P E (LO L k S):=by
 intro w0 t args A bj β w args' h inv iR;unfold LO at h;split at h
 ·cases h
 ·cases h
 ·rename_i f;split at h
  ·cases h
  ·rename_i Aw r0 Ni;split at h
   ·rename_i rl aO ga;split at h
    ·cases h
    ·rename_i ρ Nc;split at h
     ·cases h
     ·rename_i us A1 jz;split at h
      ·cases h
      ·rename_i nd r ht1;split at h
       ·rename_i g i res hk hr;split at h
        ·cases h
        ·rename_i g' sg hS;replace h:=au h;rcases h with⟨hb,h⟩|⟨_,h⟩
         ·simp only [xf] at hb;obtain⟨⟨⟨⟨⟨⟨⟨⟨b1,b2⟩,b3⟩,b4⟩,b5⟩,b6⟩,b7⟩,b8⟩,b9⟩:=hb;rw[eM] at hS;have e2:=xb b2;have e3:=xb b3;subst e2;subst e3;have e4:=kV _ _ b4;rw[dA] at b5;have FA:=Vp b7;have bg:A1.next<cJ:=xh b8;have Cf:L.length+sg.hp'.length<2^k:=by
           have:=xh b9;rw[dA,dA] at this;exact this
          have as1:=inv.pop (r:=r0) (fun x hx=>by rw[Ni];exact xo _ hx);have rz:∀aI,β.d=aI.d→Inv w0 E.G aI A1 w→∃ds cA,aX (bP aI.d) us=some ds∧aX (gi aI.d) res=some cA∧v9 P LL k L g' sg ds cA:=fun aI hd i1=>by
           have hq:=hC _ nd g' i hk (i1.eO nd (by rw[ht1];exact xn));unfold KA at hq;rw[hk,hr] at hq;simp only at hq;obtain⟨Te,ds,cA,q1,q2,q3,q4⟩:=hq;rw[hS] at q1;cases q1;rw[←e4] at q2;exact⟨ds,cA,q2,q3,q4⟩
          have hn:E.G.n=bI L:=by rw[hG,dA]
          obtain⟨βq,iq,gq,_⟩:=Pp (w0:=w0) (w:=w) (G:=E.G) (fun v A u A' β h i=>wH ok FZ v A u A' β h i) aO _ us A1 β (by rw[hn];exact jz) as1;obtain⟨ds,cA,q2,q3,q4⟩:=rz βq gq.d.symm iq;obtain⟨aI,j1,g1,i1,hI,n1,_⟩:=Pz ok hG hL jz as1 (ds1:=ds) (by rw[←gq.d];exact q2) b6 k;have FQ:β.grow aI A.next:=g1;have n1':A1.next=A.next:=n1;have rb:=inv.fX FQ;have bN:aX (gi aI.d) res=some cA:=by rw[g1.d,←gq.d];exact q3
          have FL:=inv.laid ok;rw[hG] at j1 FL i1;obtain⟨j2,hw2⟩:=(j1.Tf (Q':=fun _ _=>True) rfl).reX (G:=G0 L LL) FL;have XG:aP (qY L.length ρ aI fun c=>ds[c]?) sg.args args':=by
           obtain⟨k1,k2⟩:=Ji hI i1.Bm b5;refine⟨k1.trans iR.1,fun i a v' ha dF=> ?_⟩;have hi:i<args.length:=by rw[←k1];exact(xe.1 ha).1
           exact F9 hI i1.Bm (k2 i a _ ha (xc hi)) ((iR.2 i _ v' (xc hi) dF).mono rb)
          refine(q4 w _ args' j2 rfl (XG.jc hw2)).mono fun en w' Hx=> ?_
          obtain⟨v,ah,rfl,ic,hv,Lr,hz,kx,hxx⟩:=Hx;unfold ap4 at h;split at h
          ·rename_i u l hu hl;cases h;have iK:(A1.pop r).next=A1.next:=rfl;rw[dA] at hu hl;have ee:=U3 hl;have aK:sg.nob≤sg.hp'.length:=by
            by_cases h0:sg.nob=0
            ·omega
            ·obtain⟨_,b,hb,_⟩:=FA (sg.nob - 1) (by omega);have:=(xe.1 hb).1;omega
           rw[dA] at hu ee;have Cy:=aV5 (n:=(A1.pop r).next) (ρ:=ρ) (fun i hi=>(FA i hi).1) aK;unfold BE at b6;rw[dA] at b6;simp only [xf] at b6;obtain⟨⟨⟨_,c2⟩,_⟩,c4⟩:=b6;obtain⟨aC,sO⟩:=NV c2;have c6:=NU c4;have i1p:Inv w0 ⟨L.length,Q,LL⟩ aI (A1.pop r) w:=i1.pop (fun x hx=>by rw[ht1];exact xo _ hx);obtain⟨m1,m2,m3⟩:=Inv.merge (k:=k) (ρ:=ρ) (nob:=sg.nob) (hp':=sg.hp') (δ:=fun c=>ds[c]?) (A2:=Cj (sA l sg.nob) (x7 ρ (wM l sg.nob) (A1.pop r))) (res:=res) (qs:=Aq sg.nob (A1.pop r).next ρ sg.hp'.length) i1p (fun i x hx=>by
            have hj:i<(nR sg.hp).hp.length:=by rw[aC];exact(xe.1 hx).1
            rcases sO i _ x (xc hj) hx with⟨e,_⟩|⟨_,e,aj,e2,_⟩
            ·exact .inl e
            ·exact .inr ⟨e,aj,e2⟩) (fun i j x a b c=>c6 i j x a b c) (fun i hi=>(FA i hi).1) ic hxx (fun B hB=>Lr B hB) hz
            (fun c rr hc=>by
             have bQ:c<cA.length:=by rw[l6 bN];exact(xe.1 hc).1
             exact⟨cA[c],kx c _ (xc bQ),jU bN (xc bQ) hc⟩)
            Cy (fun j tb hj TP=>by
             obtain⟨_,b,hb,hp⟩:=FA j hj;rw[TP] at hb;cases hb;exact hp) aK
            (fun B aj hB=>by
             have il:∀(i x:Nat),ρ[i]? =some x→x≠cJ→x<A1.next:=fun i x hx bA=>by
              have hj:i<(nR sg.hp).hp.length:=by rw[aC];exact(xe.1 hx).1
              rcases sO i _ x (xc hj) hx with⟨e,_⟩|⟨_,e,aj,e2,_⟩
              ·exact absurd e bA
              ·exact Nat.lt_of_not_le fun ek=>by rw[i1.dz x ek] at e2;cases e2
             have jr:∀C b,(x7 ρ (wM l sg.nob) (A1.pop r)).get C=some b→C<A1.next:=fun C b hC=>by
              rcases OI _ _ _ _ _ hC with⟨i,h1,h2,_⟩|⟨_,h2⟩
              ·exact il i C h1 h2
              ·exact Nat.lt_of_not_le fun ek=>by rw[show(A1.pop r).get C=A1.get C from rfl,i1.dz C ek] at h2;cases h2
             have eA:(x7 ρ (wM l sg.nob) (A1.pop r)).next=A1.next:=(C1 _ _ _).1;have bG:l.length=sg.hp'.length:=ee.1.symm;rcases Wf _ _ (fun C hC=>by
              cases hq:(x7 ρ (wM l sg.nob) (A1.pop r)).get C with
              |none=>rfl
              |some b=>have:=jr C b hq;omega) B aj hB with⟨j,h1,h2⟩|⟨h1,h2⟩
             ·rw[OP,List.getElem?_drop] at h2;have hj:sg.nob+j<l.length:=(xe.1 h2).1;have fL:sg.nob+j<sg.hp'.length:=by omega
              have qz:sg.nob+j<(Aq sg.nob (A1.pop r).next ρ sg.hp'.length).length:=by rw[Cy.1];exact fL
              refine .inl ⟨sg.nob+j,_,?_,xc fL,ee.2 _ _ _ (xc fL) h2⟩;have e1:=xc qz;have e2:=Cy.2 _ _ e1;rw[e1,e2];unfold ED;rw[if_neg (by omega),h1,eA,iK]
              congr 1
              omega
             ·rcases OI _ _ _ _ _ h2 with⟨i,h3,h4,h5⟩|⟨h3,h4⟩
              ·rw[Oy] at h5;have hi0:=(xe.1 h5).1;rw[xz] at hi0;have hi:i<sg.nob:=by omega
               rw[List.getElem?_take,if_pos hi] at h5;have fL:i<sg.hp'.length:=by omega
               have qz:i<(Aq sg.nob (A1.pop r).next ρ sg.hp'.length).length:=by rw[Cy.1];exact fL
               refine .inl ⟨i,_,?_,xc fL,ee.2 _ _ _ (xc fL) h5⟩;have e1:=xc qz;have e2:=Cy.2 _ _ e1;rw[e1,e2];unfold ED;rw[if_pos hi,List.getD_eq_getElem?_getD,h3];rfl
              ·rw[eA] at h1;exact .inr ⟨h1,fun i hi=>by have:=h3 i hi;omega,h4⟩)
            (by
             rw[(Js _ _).1,(C1 _ _ _).1,OP,List.length_drop,←ee.1])
            (fun x hx=>by
             rw[(Js _ _).2,(C1 _ _ _).2] at hx;exact hx) Cf
           refine⟨_,xn,_,v,rfl,aT8 m3 hu hv,?_,?_,?_⟩
           ·rw[hG];exact m1
           ·have m2':aI.grow _ A1.next:=m2;rw[n1'] at m2';exact af.iZ FQ m2' (xk _)
           ·show A.next≤(Cj _ _).next;rw[(Js _ _).1,(C1 _ _ _).1,iK,n1'];omega
          ·cases h
         ·cases h
       ·cases h
   ·cases h
end
inductive DT where
 |op (k:NK) (args:List xM) (t:DT)
 |aF (k:NK) (args:List xM) (cQ:List (Option xM)) (t e:DT)
 |br (k:NK) (args:List xM) (t e:DT)
 |sw (k:NK) (args:List xM) (v:xM) (t e:DT)
 |note (nd:Node) (t:DT)
 |call (f i:Nat) (us:List xM) (cQ:List (Option xM)) (t e:DT)
 |jump (h m:Nat) (ρ:List Nat) (aO us:List xM)
 |ret (ρ:List Nat) (aO us:List xM)
 |stop
abbrev cd(n:Nat):xM:= .chan (some (n+1))
def rQ(n:Nat):List (Option xM)→List xM
 |[]=>[]
 |none::l=>cd n::rQ (n+1) l
 |some v::l=>v::rQ (n+1) l
def zi(d:D)(v:xM):Bool:=match d,v with| .bool b,.bool b'=>b==b'| .int k n,.int k' n'=>decide (k=k'∧n=n')|_,_=>false
abbrev tt:Option xM:=some (.bool true)
abbrev ff:Option xM:=some (.bool false)
abbrev no:Option xM:=none
def iy:List (Option xM)→List D→Bool
 |[],[]=>true
 |none::l,d::ds=>d.cell&&iy l ds
 |some v::l,d::ds=>zi d v&&iy l ds
 |_,_=>false
def lk(env:List D):Nat→Option D:=fun c=>env[c]?
def bT(call:Nat→List D→Option (List D))(jump:Nat→List D→Option (List D)):DT→List D→Option (List D)
 | .op k args t,env=>(aX (cb (lk env)) args).bind fun ds=>(aU k ds).bind fun d=>if d.cell=true then bT call jump t (env++[d]) else none
 | .aF k args cQ t e,env=>(aX (cb (lk env)) args).bind fun ds=>match aU k ds with
  |some (.agg l)=>if iy cQ l=true then bT call jump t (env++l) else bT call jump e env
  |_=>none
 | .br k args t e,env=>(aX (cb (lk env)) args).bind fun ds=>match aU k ds with
  |some (.bool true)=>bT call jump t env
  |some (.bool false)=>bT call jump e env
  |_=>none
 | .sw k args v t e,env=>(aX (cb (lk env)) args).bind fun ds=>match aU k ds with
  |some d=>if zi d v=true then bT call jump t env else bT call jump e env
  |none=>none
 | .note _ t,env=>bT call jump t env
 | .call _ i us cQ t e,env=>(aX (bP (lk env)) us).bind fun ds=>(call i ds).bind fun cA=>if iy cQ cA=true then bT call jump t (env++cA) else bT call jump e env
 | .jump h _ _ _ us,env=>(aX (bP (lk env)) us).bind (jump h)
 | .ret _ _ us,env=>aX (bP (lk env)) us
 | .stop,_=>none
inductive RT where
 |lf (x:Option (List (List Item)))
 |bn (a b:RT)
section
variable(pT:List Node→Nat→Nat→List Nat→List xM→List xM→Option (List (List Item)))(ret:List Node→List Nat→List xM→List xM→Option (List (List Item)))
def eE{α:Type}(x:α):α:=x
def EC(l:List Node)(r:List Node):List Node:=List.rec (motive:=fun _=>List Node→List Node) (fun r=>r) (fun x _ ih r=>eE (ih (x::r))) l r
def qJ(t:DT):Nat→List Node→RT:=
 DT.rec (motive:=fun _=>Nat→List Node→RT)
  (fun k args _ ih n cF=>DH n fun n=>ih (Nat.succ n) (⟨k,args,cd n⟩::cF))
  (fun k args cQ _ _ kQ eH n cF=> .bn (kQ (Nat.add n (bI cQ)) (⟨k,args,.agg ⟨rQ n cQ⟩⟩::cF)) (eH n cF))
  (fun k args _ _ kQ eH n cF=> .bn (kQ n (⟨k,args,.bool true⟩::cF)) (eH n (⟨k,args,.bool false⟩::cF)))
  (fun k args v _ _ kQ eH n cF=> .bn (kQ n (⟨k,args,v⟩::cF)) (eH n cF))
  (fun nd _ ih n cF=>ih n (nd::cF))
  (fun f i us cQ _ _ kQ eH n cF=> .bn (kQ (Nat.add n (bI cQ)) (⟨.uc f i,us,.tuple ⟨rQ n cQ⟩⟩::cF)) (eH n cF))
  (fun h m ρ aO us _ cF=> .lf (pT (EC cF []) h m ρ aO us))
  (fun ρ aO us _ cF=> .lf (ret (EC cF []) ρ aO us))
  (fun _ _=> .lf none) t
def qR(td:Nat→List Item)(t:DT):RT:=
 DT.rec (motive:=fun _=>RT)
  (fun _ _ _ ih=>eE ih) (fun _ _ _ _ _ a b=> .bn a b) (fun _ _ _ _ a b=> .bn a b) (fun _ _ _ _ _ a b=> .bn a b) (fun _ _ ih=>ih) (fun _ _ _ _ _ _ a b=> .bn a b) (fun h _ _ _ _=> .lf (some [td h])) (fun _ _ _=> .lf (some [[]])) (.lf none) t
end
theorem O5:∀(l r:List Node),EC l r=l.reverse++r
 |[],r=>rfl
 |x::l,r=>by show EC l (x::r)=_;rw[O5 l (x::r)];simp
def GH(k:NK):Bool:=match k with| .call _=>false| .uc _ _=>false| .lI _=>false| .Ev _=>false| .own _=>false|_=>true
def l7(S:List (Nat×aD)):DT→Bool
 | .op k _ t=>GH k&&l7 S t
 | .aF k _ _ t e=>GH k&& (l7 S t&&l7 S e)
 | .br k _ t e=>GH k&& (l7 S t&&l7 S e)
 | .sw k _ _ t e=>GH k&& (l7 S t&&l7 S e)
 | .note nd t=>(match nd.k with| .own _=>true|_=>false)&&l7 S t
 | .call f i _ _ t e=>(match S[i]? with|some (f',_)=>f==f'|none=>false)&& (l7 S t&&l7 S e)
 |_=>true
theorem N9{δ ni:Nat→Option D}(h:∀(c:Nat) (d:D),δ c=some d→ni c=some d){v:xM}{d:D}(hv:cb δ v=some d):cb ni v=some d:=by
 unfold cb at*;split at hv
 ·obtain⟨ds,h1,rfl⟩:=xp.1 hv;simp only [p9 (fun v d=>tq h) h1,Option.map_some]
 ·exact tq h hv
theorem N1{δ ni:Nat→Option D}(h:∀(c:Nat) (d:D),δ c=some d→ni c=some d){v:xM}{d:D}(hv:gi δ v=some d):gi ni v=some d:=by
 unfold gi at*;split at hv
 ·cases hv
 ·exact tq h hv
theorem aK6{δ ni:Nat→Option D}(h:∀(c:Nat) (d:D),δ c=some d→ni c=some d){v:xM}{d:D}(hv:jq δ v=some d):jq ni v=some d:=by
 unfold jq at*;split at hv
 ·obtain⟨ds,h1,rfl⟩:=xp.1 hv;simp only [p9 (fun v d=>N1 h) h1,Option.map_some]
 ·exact N1 h hv
theorem dt.jc{δ ni:Nat→Option D}(h:∀(c:Nat) (d:D),δ c=some d→ni c=some d){nd:Node}(hq:dt δ nd):dt ni nd:=by
 unfold dt at*;split at hq<;>first|trivial|exact hq.imp fun ds hq=>hq.imp fun d ⟨a,b,c⟩=>⟨p9 (fun v d=>N9 h) a,aK6 h b,c⟩
def NQ(P:Program)(LL:World→Prop)(k:Nat)(L:List (Option ao))(S:List (Nat×aD))(δ:Nat→Option D)(nd:Node):Prop:=
 dt δ nd∧∀g i,nd.k= .uc g i→KA P LL k L S δ nd
theorem NQ.jc{P:Program}{LL:World→Prop}{k:Nat}{L:List (Option ao)}{S:List (Nat×aD)}{δ ni:Nat→Option D}(h:∀(c:Nat) (d:D),δ c=some d→ni c=some d){nd:Node}(hq:NQ P LL k L S δ nd):NQ P LL k L S ni nd:=by
 refine⟨hq.1.jc h,fun g i hk=> ?_⟩;have:=hq.2 g i hk;unfold KA at*;split at this
 ·obtain⟨sg,ds,cA,q1,q2,q3,q4⟩:=this;exact⟨sg,ds,cA,q1,p9 (fun v d=>tq h) q2,p9 (fun v d=>N1 h) q3,q4⟩
 ·exact this.elim
theorem wv(env l:List D)(c:Nat)(d:D)(h:lk env c=some d):lk (env++l) c=some d:=by
 unfold lk at*;rw[xw (xe.1 h).1];exact h
theorem PX(env l:List D)(i:Nat)(d:D)(h:l[i]? =some d):lk (env++l) (env.length+i)=some d:=by
 unfold lk;rw[xq (by omega),show env.length+i - env.length=i by omega];exact h
theorem WA{δ:Nat→Option D}{n:Nat}{d:D}(h:δ n=some d)(hc:d.cell=true):gi δ (cd n)=some d:=by
 show(δ n).bind _=_;rw[h];show(if d.cell then some d else none)=some d;rw[hc];rfl
theorem aM9{d:D}{v:xM}(h:zi d v=true)(δ:Nat→Option D):gi δ v=some d:=by
 unfold zi at h;split at h
 ·rename_i a b;obtain rfl:a=b:=by simpa using h
  rfl
 ·obtain⟨rfl,rfl⟩:=of_decide_eq_true h;rfl
 ·cases h
theorem aJ2{d:D}{v:xM}(h:zi d v=true)(δ:Nat→Option D):jq δ v=some d:=by
 unfold zi at h;split at h
 ·rename_i a b;obtain rfl:a=b:=by simpa using h
  rfl
 ·obtain⟨rfl,rfl⟩:=of_decide_eq_true h;rfl
 ·cases h
theorem Jh{env:List D}:∀{cQ:List (Option xM)} {ds pre:List D} {δ:Nat→Option D},iy cQ ds=true→(∀(i:Nat) (d:D),ds[i]? =some d→δ (pre.length+i)=some d)→aX (gi δ) (rQ pre.length cQ)=some ds
 |[],[],_,_,_,_=>rfl
 |[],_::_,_,_,h,_=>by simp[iy] at h
 |none::l,[],_,_,h,_=>by simp[iy] at h
 |none::l,d::ds,pre,δ,h,hd=>by
  unfold iy at h;rw[xf] at h;have ih:=Jh (env:=env) (pre:=pre++[d]) (δ:=δ) h.2 (fun i x hx=>by
   have:=hd (i+1) x (by simpa using hx);rw[xa];simpa[Nat.add_assoc,Nat.add_comm 1 i] using this)
  rw[xa] at ih;have h0:=hd 0 d rfl;show(match gi δ (cd pre.length),aX (gi δ) (rQ (pre.length+1) l) with|some x,some r=>some (x::r)|_,_=>none)=_;rw[WA h0 h.1];have TB:aX (gi δ) (rQ (pre.length+1) l)=some ds:=ih;rw[TB]
 |some b::l,[],_,_,h,_=>by simp[iy] at h
 |some b::l,d::ds,pre,δ,h,hd=>by
  unfold iy at h;rw[xf] at h;have ih:=Jh (env:=env) (pre:=pre++[d]) (δ:=δ) h.2 (fun i x hx=>by
   have:=hd (i+1) x (by simpa using hx);rw[xa];simpa[Nat.add_assoc,Nat.add_comm 1 i] using this)
  rw[xa] at ih;have TB:aX (gi δ) (rQ (pre.length+1) l)=some ds:=ih;show(match gi δ b,aX (gi δ) (rQ (pre.length+1) l) with|some x,some r=>some (x::r)|_,_=>none)=_;rw[TB,aM9 h.1]
theorem U5:∀(cQ:List (Option xM)) (ds:List D),iy cQ ds=true→ds.length=cQ.length:=by
 intro cQ
 induction cQ with
 |nil=>intro ds h;cases ds with|nil=>rfl|cons _ _=>simp[iy] at h
 |cons a cQ ih=>
  intro ds h;cases ds with
  |nil=>cases a<;>simp[iy] at h
  |cons d ds=>
   cases a with
   |none=>unfold iy at h;rw[xf] at h;simp[ih ds h.2]
   |some b=>unfold iy at h;rw[xf] at h;simp[ih ds h.2]
theorem NQ.plain{P:Program}{LL:World→Prop}{kk:Nat}{L:List (Option ao)}{S:List (Nat×aD)}{δ:Nat→Option D}{k:NK}{args:List xM}{r:xM}{ds:List D}{d:D}(hk:GH k=true)(h1:aX (cb δ) args=some ds)(h2:jq δ r=some d)(h3:aU k ds=some d):NQ P LL kk L S δ ⟨k,args,r⟩:=by
 refine⟨?_,fun g i e=> ?_⟩
 ·unfold dt;split<;>first|trivial|exact⟨ds,d,h1,h2,h3⟩
 ·have e:k= .uc g i:=e;subst e;cases hk
theorem tA{P:Program}{LL:World→Prop}{kk:Nat}{L:List (Option ao)}{S:List (Nat×aD)}{call jump:Nat→List D→Option (List D)}(mi:∀(i:Nat) (ds cA:List D) (f:Nat) (sg:aD),call i ds=some cA→S[i]? =some (f,sg)→v9 P LL kk L f sg ds cA)
 {pT:List Node→Nat→Nat→List Nat→List xM→List xM→Option (List (List Item))} {ret:List Node→List Nat→List xM→List xM→Option (List (List Item))} {td:Nat→List Item} {eN:List D}:
 ∀(t:DT) (env:List D) (cF:List Node),l7 S t=true→qJ pT ret t env.length cF=qR td t→(∀nd∈cF,NQ P LL kk L S (lk env) nd)→bT call jump t env=some eN→
  ∃(tape:List Node) (oV:List D),(∀(c:Nat) (d:D),lk env c=some d→lk oV c=some d)∧(∀nd∈tape,NQ P LL kk L S (lk oV) nd)∧
   ((∃h m ρ aO us cA,pT tape h m ρ aO us=some [td h]∧aX (bP (lk oV)) us=some cA∧jump h cA=some eN)∨∃ρ aO us,ret tape ρ aO us=some [[]]∧aX (bP (lk oV)) us=some eN)
 | .op k args t,env,cF,hn,hr,ha,he=>by
  unfold l7 at hn;rw[xf] at hn;unfold bT at he;obtain⟨ds,h1,he⟩:=xr.1 he;obtain⟨d,h2,he⟩:=xr.1 he;split at he
  ·rename_i hc;have aC:(env++[d]).length=Nat.succ env.length:=by rw[xa];rfl
   have iJ:DH env.length (fun n=>qJ pT ret t (Nat.succ n) (⟨k,args,cd n⟩::cF))=qR td t:=hr;have dY:qJ pT ret t (Nat.succ env.length) (⟨k,args,cd env.length⟩::cF)=qR td t:=by rw[Jr] at iJ;exact iJ
   rw[←aC] at dY;obtain⟨tape,oV,g1,g2,g3⟩:=tA mi t (env++[d]) _ hn.2 dY (fun nd c6=>by
    rcases xG.1 c6 with rfl|c6
    ·exact NQ.plain hn.1 (p9 (fun v d=>N9 (wv env [_])) h1) (WA (PX env [d] 0 d rfl) hc) h2
    ·exact(ha nd c6).jc (wv env [d])) he
   exact⟨tape,oV,fun c x h=>g1 c x (wv env [d] c x h),g2,g3⟩
  ·cases he
 | .aF k args cQ t e,env,cF,hn,hr,ha,he=>by
  unfold l7 at hn;rw[xf,xf] at hn;unfold bT at he;obtain⟨ds,h1,he⟩:=xr.1 he;have dY:RT.bn (qJ pT ret t (Nat.add env.length (bI cQ)) (⟨k,args,.agg ⟨rQ env.length cQ⟩⟩::cF)) (qJ pT ret e env.length cF)=RT.bn (qR td t) (qR td e):=hr;injection dY with r1 r2;split at he
  ·rename_i l h2;split at he
   ·rename_i hm;have aC:(env++l).length=Nat.add env.length (bI cQ):=by rw[xa,U5 _ _ hm,dA];rfl
    rw[←aC] at r1;obtain⟨tape,oV,g1,g2,g3⟩:=tA mi t (env++l) _ hn.2.1 r1 (fun nd c6=>by
     rcases xG.1 c6 with rfl|c6
     ·refine NQ.plain hn.1 (p9 (fun v d=>N9 (wv env l)) h1) ?_ h2;show(aX (gi (lk (env++l))) (rQ env.length cQ)).map D.agg=some (D.agg l);rw[Jh (env:=env) (pre:=env) hm (fun i d hd=>PX env l i d hd)];rfl
     ·exact(ha nd c6).jc (wv env l)) he
    exact⟨tape,oV,fun c x h=>g1 c x (wv env l c x h),g2,g3⟩
   ·exact tA mi e env cF hn.2.2 r2 ha he
  ·cases he
 | .br k args t e,env,cF,hn,hr,ha,he=>by
  unfold l7 at hn;rw[xf,xf] at hn;unfold bT at he;obtain⟨ds,h1,he⟩:=xr.1 he;have dY:RT.bn (qJ pT ret t env.length (⟨k,args,.bool true⟩::cF)) (qJ pT ret e env.length (⟨k,args,.bool false⟩::cF))=RT.bn (qR td t) (qR td e):=hr;injection dY with r1 r2;split at he
  ·rename_i h2;exact tA mi t env _ hn.2.1 r1 (fun nd c6=>by
    rcases xG.1 c6 with rfl|c6
    ·exact NQ.plain hn.1 h1 rfl h2
    ·exact ha nd c6) he
  ·rename_i h2;exact tA mi e env _ hn.2.2 r2 (fun nd c6=>by
    rcases xG.1 c6 with rfl|c6
    ·exact NQ.plain hn.1 h1 rfl h2
    ·exact ha nd c6) he
  ·cases he
 | .sw k args v t e,env,cF,hn,hr,ha,he=>by
  unfold l7 at hn;rw[xf,xf] at hn;unfold bT at he;obtain⟨ds,h1,he⟩:=xr.1 he;have dY:RT.bn (qJ pT ret t env.length (⟨k,args,v⟩::cF)) (qJ pT ret e env.length cF)=RT.bn (qR td t) (qR td e):=hr;injection dY with r1 r2;split at he
  ·rename_i d h2;split at he
   ·rename_i hv;exact tA mi t env _ hn.2.1 r1 (fun nd c6=>by
     rcases xG.1 c6 with rfl|c6
     ·exact NQ.plain hn.1 h1 (aJ2 hv _) h2
     ·exact ha nd c6) he
   ·exact tA mi e env cF hn.2.2 r2 ha he
  ·cases he
 | .note Aw t,env,cF,hn,hr,ha,he=>by
  unfold l7 at hn;rw[xf] at hn;unfold bT at he;exact tA mi t env (Aw::cF) hn.2 hr (fun nd c6=>by
   rcases xG.1 c6 with rfl|c6
   ·have h1:=hn.1;split at h1
    ·rename_i x hk;refine⟨by unfold dt;rw[hk];trivial,fun g i e=>by rw[hk] at e;cases e⟩
    ·cases h1
   ·exact ha nd c6) he
 | .call f i us cQ t e,env,cF,hn,hr,ha,he=>by
  unfold l7 at hn;rw[xf,xf] at hn;unfold bT at he;obtain⟨ds,h1,he⟩:=xr.1 he;obtain⟨cA,h2,he⟩:=xr.1 he;have dY:RT.bn (qJ pT ret t (Nat.add env.length (bI cQ)) (⟨.uc f i,us,.tuple ⟨rQ env.length cQ⟩⟩::cF)) (qJ pT ret e env.length cF)=RT.bn (qR td t) (qR td e):=hr;injection dY with r1 r2;split at he
  ·rename_i hm;have pY:cA.length=cQ.length:=U5 _ _ hm;have aC:(env++cA).length=Nat.add env.length (bI cQ):=by rw[xa,pY,dA];rfl
   rw[←aC] at r1;obtain⟨tape,oV,g1,g2,g3⟩:=tA mi t (env++cA) _ hn.2.1 r1 (fun nd c6=>by
    rcases xG.1 c6 with rfl|c6
    ·refine⟨trivial,fun g j e=> ?_⟩;cases e;have h0:=hn.1;split at h0
     ·rename_i f' sg hS;have ef:f=f':=by simpa using h0
      subst ef;exact⟨sg,ds,cA,hS,p9 (fun v d=>tq (wv env cA)) h1,Jh (env:=env) (pre:=env) hm (fun i d hd=>PX env cA i d hd),mi i ds cA f sg h2 hS⟩
     ·cases h0
    ·exact(ha nd c6).jc (wv env cA)) he
   exact⟨tape,oV,fun c d h=>g1 c d (wv env cA c d h),g2,g3⟩
  ·exact tA mi e env cF hn.2.2 r2 ha he
 | .jump h m ρ aO us,env,cF,hn,hr,ha,he=>by
  unfold bT at he;obtain⟨cA,h1,h2⟩:=xr.1 he;have dY:RT.lf (pT (EC cF []) h m ρ aO us)=RT.lf (some [td h]):=hr;injection dY with r1;refine⟨_,env,fun _ _ h=>h,fun nd c6=>ha nd ?_,.inl ⟨h,m,ρ,aO,us,cA,r1,h1,h2⟩⟩;rw[O5] at c6;simpa using c6
 | .ret ρ aO us,env,cF,hn,hr,ha,he=>by
  unfold bT at he;have dY:RT.lf (ret (EC cF []) ρ aO us)=RT.lf (some [[]]):=hr;injection dY with r1;refine⟨_,env,fun _ _ h=>h,fun nd c6=>ha nd ?_,.inr ⟨ρ,aO,us,r1,he⟩⟩;rw[O5] at c6;simpa using c6
 | .stop,env,cF,hn,hr,ha,he=>by
  unfold bT at he;cases he
structure Hd where
 td:List Item
 T:aG
 m:Nat
structure FD where
 f:FuncId
 n:Nat
 K:Nat
 rs:List ResultVar
 sg:aD
 hs:List Hd
 uR:List DT
def exec(F:List FD)(X:Nat→List D→Option (List D)):Nat→Nat→Nat→List D→Option (List D)
 |0,_,_,_=>none
 |n+1,i,h,ds=>match F[i]? with
  |none=>X i ds
  |some fd=>match fd.hs[h]?,fd.uR[h]? with
   |some s,some t=>if ds.length=s.m then bT (fun j ds=>exec F X n j 0 ds) (fun h' ds=>exec F X n i h' ds) t ds else none
   |_,_=>none
section
variable(E:aq)(sq:List (Nat×List xO))(call:cT→List xM→AW→aZ xM)(bL:Nat→List Oper→Fr→AW→aZ Fr)(aN k:Nat)(L:List (Option ao))
def Sl(fd:FD)(s:Hd)(tape:List Node)(h m:Nat)(ρ:List Nat)(aO us:List xM):Option (List (List Item)):=
 match dB fd.hs h with
 |some s'=>vo E sq call fd.n (bL fd.n) YF (S0 L s'.T fd.sg.nob ρ aO us) aN m s.td (qD fd.K s.T.tm) (s.T.aw k L tape)
 |none=>none
def am4(fd:FD)(s:Hd)(tape:List Node)(ρ:List Nat)(aO us:List xM):Option (List (List Item)):=
 vo E sq call fd.n (bL fd.n) (SW E fd.rs L fd.sg ρ aO us) YG aN 0 s.td (qD fd.K s.T.tm) (s.T.aw k L tape)
def Tb(fd:FD)(h:Nat):List Item:=match dB fd.hs h with|some s=>s.td|none=>[]
def LC(S:List (Nat×aD))(fd:FD)(s:Hd)(t:DT):Prop:=
 l7 S t=true∧fd.sg.nob≤s.T.hp.length∧qJ (Sl E sq call bL aN k L fd s) (am4 E sq call bL aN k L fd s) t s.m []=qR (Tb fd) t
structure FOk (P:Program) (S:List (Nat×aD)) (fd:FD):Prop where
 fn:∃fn c,P.funcs[fd.f]? =some fn∧fn.body=some c∧fn.ntmps=fd.n∧fn.results=⟨fd.rs⟩∧∃m,fd.hs[0]? =some ⟨[.code c],⟨yl fd.sg.args,fd.sg.hp⟩,m⟩
 len:fd.sg.args.length≤fd.n
 lI:∀(h:Nat) (s:Hd) (t:DT),fd.hs[h]? =some s→fd.uR[h]? =some t→LC E sq call bL aN k L S fd s t
end
theorem bc8{E:aq}{sq:List (Nat×List xO)}{call:cT→List xM→AW→aZ xM}{bL:Nat→List Oper→Fr→AW→aZ Fr}{aN k:Nat}{L:List (Option ao)}{S:List (Nat×aD)}{fd:FD}(n:Nat)(hl:fd.hs.length=n)(h:∀h,h<n→LC E sq call bL aN k L S fd (fd.hs.getD h ⟨[],⟨[],[]⟩,0⟩) (fd.uR.getD h .stop)):
 ∀(h:Nat) (s:Hd) (t:DT),fd.hs[h]? =some s→fd.uR[h]? =some t→LC E sq call bL aN k L S fd s t:=fun i s t hs ht=>by
 have:=h i (by rw[←hl];exact(xe.1 hs).1);rw[List.getD_eq_getElem?_getD,List.getD_eq_getElem?_getD,hs,ht] at this;exact this
section
variable{P:Program}{E:aq}{sq:List (Nat×List xO)}(ok:E.Ok P)(ba:E.Seq P sq){L:List (Option ao)}{LL:World→Prop}{k:Nat}{S:List (Nat×aD)}(hG:E.G=⟨L.length,NQ P LL k L S,LL⟩)(hL:HI L)
include ok ba hG hL in
theorem Ps{call:cT→List xM→AW→aZ xM}(hc:fG P E call){bL:Nat→List Oper→Fr→AW→aZ Fr}(kw:∀n,vc P E n (bL n)){aN:Nat}{F:List FD}{X:Nat→List D→Option (List D)}
 (hF:∀(i:Nat) (fd:FD),F[i]? =some fd→FOk E sq call bL aN k L P S fd∧S[i]? =some (fd.f,fd.sg)) (hX:∀(i:Nat) (ds cA:List D) (f:Nat) (sg:aD),X i ds=some cA→S[i]? =some (f,sg)→v9 P LL k L f sg ds cA):
 ∀(n i:Nat),(∀(h:Nat) (ds eN:List D),exec F X n i h ds=some eN→∀(fd:FD),F[i]? =some fd→∀(s:Hd),fd.hs[h]? =some s→E9 P E fd.f fd.n fd.K k L fd.sg s.td s.T ds eN)∧
  ∀(ds eN:List D) (f:Nat) (sg:aD),exec F X n i 0 ds=some eN→S[i]? =some (f,sg)→v9 P LL k L f sg ds eN
 |0,i=>⟨fun h ds eN e=>(by unfold exec at e;cases e),fun ds eN f sg e=>(by unfold exec at e;cases e)⟩
 |n+1,i=>by
  have key:∀(h:Nat) (ds eN:List D),exec F X (n+1) i h ds=some eN→∀(fd:FD),F[i]? =some fd→∀(s:Hd),fd.hs[h]? =some s→E9 P E fd.f fd.n fd.K k L fd.sg s.td s.T ds eN:=by
   intro h ds eN e fd mT s hs;unfold exec at e;rw[mT] at e;simp only at e;rw[hs] at e;split at e
   ·rename_i s' t pV ht;cases pV;split at e
    ·rename_i hm;obtain⟨I4,hS⟩:=hF i fd mT;obtain⟨h1,h2,h3⟩:=I4.lI h s t hs ht;rw[←hm] at h3;obtain⟨tape,oV,g1,g2,g3⟩:=tA (P:=P) (LL:=LL) (kk:=k) (L:=L) (S:=S) (fun j ds cA f sg hj hSj=>(Ps hc kw hF hX n j).2 ds cA f sg hj hSj) t ds [] h1 h3 (fun nd c6=>by cases c6) e;obtain⟨fn,c,f1,f2,f3,f4,f5⟩:=I4.fn;rcases g3 with⟨h',m,ρ,aO,us,cA,r1,r2,r3⟩|⟨ρ,aO,us,r1,r2⟩
     ·unfold Sl Tb at r1;rw[eM] at r1;cases hh:fd.hs[h']? with
      |none=>rw[hh] at r1;cases r1
      |some s2=>
       rw[hh] at r1;exact aO7 ok ba hG hL hc (kw fd.n) r1 (fun o ho=>xy.1 ho) h2 (δ:=lk oV) (fun c d h=>g1 c d h) (fun nd c6=>g2 nd c6) r2 ((Ps hc kw hF hX n i).1 h' cA eN r3 fd mT s2 hh)
     ·exact aV0 ok ba hG hL hc (kw fd.n) f1 f4 r1 h2 (δ:=lk oV) (fun c d h=>g1 c d h) (fun nd c6=>g2 nd c6) r2
    ·cases e
   ·cases e
  refine⟨key,fun ds eN f sg e hS=> ?_⟩;cases mT:F[i]? with
  |none=>
   unfold exec at e;rw[mT] at e;exact hX i ds eN f sg e hS
  |some fd=>
   obtain⟨I4,hS'⟩:=hF i fd mT;rw[hS] at hS';cases hS';obtain⟨fn,c,f1,f2,f3,f4,m,f5⟩:=I4.fn;have L8:=key 0 ds eN e fd mT _ f5;have aC:=I4.len;rw[←f3] at L8 aC;exact aL7 hG f1 f2 aC L8
end
theorem rI{c c' j j':Nat→List D→Option (List D)}(hc:∀i ds o,c i ds=some o→c' i ds=some o)(hj:∀i ds o,j i ds=some o→j' i ds=some o):
 ∀(t:DT) (env o:List D),bT c j t env=some o→bT c' j' t env=some o
 | .op k args t,env,o,h=>by
  unfold bT at h⊢;obtain⟨ds,h1,h⟩:=xr.1 h;obtain⟨d,h2,h⟩:=xr.1 h;rw[h1,xB,h2,xB];split at h
  ·rename_i iu;rw[if_pos iu];exact rI hc hj t _ _ h
  ·cases h
 | .aF k args cQ t e,env,o,h=>by
  unfold bT at h⊢;obtain⟨ds,h1,h⟩:=xr.1 h;rw[h1,xB];split at h
  ·rename_i l h2
   try rw[h2]
   split at h
   ·rename_i hm;simp only [if_pos hm];exact rI hc hj t _ _ h
   ·rename_i hm;simp only [if_neg hm];exact rI hc hj e _ _ h
  ·cases h
 | .br k args t e,env,o,h=>by
  unfold bT at h⊢;obtain⟨ds,h1,h⟩:=xr.1 h;rw[h1,xB];split at h
  ·rename_i h2;try rw[h2]
   exact rI hc hj t _ _ h
  ·rename_i h2;try rw[h2]
   exact rI hc hj e _ _ h
  ·cases h
 | .sw k args v t e,env,o,h=>by
  unfold bT at h⊢;obtain⟨ds,h1,h⟩:=xr.1 h;rw[h1,xB];cases h2:aU k ds with
  |none=>rw[h2] at h;cases h
  |some d=>
   rw[h2] at h;simp only at h⊢;split at h
   ·rename_i hv;rw[if_pos hv];exact rI hc hj t _ _ h
   ·rename_i hv;rw[if_neg hv];exact rI hc hj e _ _ h
 | .note nd t,env,o,h=>by
  unfold bT at h⊢;exact rI hc hj t _ _ h
 | .call f i us cQ t e,env,o,h=>by
  unfold bT at h⊢;obtain⟨ds,h1,h⟩:=xr.1 h;obtain⟨cA,h2,h⟩:=xr.1 h;rw[h1,xB,hc _ _ _ h2,xB];split at h
  ·rename_i hm;rw[if_pos hm];exact rI hc hj t _ _ h
  ·rename_i hm;rw[if_neg hm];exact rI hc hj e _ _ h
 | .jump h' m ρ aO us,env,o,h=>by
  unfold bT at h⊢;obtain⟨ds,h1,h⟩:=xr.1 h;rw[h1,xB];exact hj _ _ _ h
 | .ret ρ aO us,env,o,h=>by
  unfold bT at h⊢;exact h
 | .stop,env,o,h=>by
  unfold bT at h;cases h
section
variable(F:List FD)(X:Nat→List D→Option (List D))
theorem aQ8{n:Nat}:∀(i h:Nat) (ds o:List D),exec F X n i h ds=some o→exec F X (n+1) i h ds=some o:=by
 induction n with
 |zero=>intro i h ds o e;unfold exec at e;cases e
 |succ n ih=>
  intro i h ds o e;unfold exec at e⊢;cases hi:F[i]? with
  |none=>rw[hi] at e;exact e
  |some fd=>
   rw[hi] at e;simp only at e⊢;cases hs:fd.hs[h]? with
   |none=>rw[hs] at e;cases e
   |some s=>
    cases ht:fd.uR[h]? with
    |none=>rw[hs,ht] at e;cases e
    |some t=>
     rw[hs,ht] at e;simp only at e⊢;split at e
     ·rename_i hm;rw[if_pos hm];exact rI (fun j ds o h=>ih j 0 ds o h) (fun j ds o h=>ih i j ds o h) t ds o e
     ·cases e
theorem C3{n m:Nat}(iL:n≤m){i h:Nat}{ds o:List D}(e:exec F X n i h ds=some o):exec F X m i h ds=some o:=by
 induction iL with
 |refl=>exact e
 |step _ ih=>exact aQ8 F X _ _ _ _ ih
def run(i h:Nat)(ds:List D):Option (List D):=by
 classical
 exact if hh:∃n o,exec F X n i h ds=some o then some hh.choose_spec.choose else none
theorem Dh{i h:Nat}{ds o:List D}:run F X i h ds=some o↔∃n,exec F X n i h ds=some o:=by
 unfold run;constructor
 ·intro e;split at e
  ·rename_i hh;cases e;exact⟨hh.choose,hh.choose_spec.choose_spec⟩
  ·cases e
 ·rintro⟨n,e⟩;have hh:∃n o,exec F X n i h ds=some o:=⟨n,o,e⟩;rw[dif_pos hh];have h1:=C3 F X (Nat.le_max_left hh.choose n) hh.choose_spec.choose_spec;have h2:=C3 F X (Nat.le_max_right hh.choose n) e;exact h1.symm.trans h2
theorem tz(i:Nat):∀(t:DT) (env o:List D),bT (fun j ds=>run F X j 0 ds) (fun h ds=>run F X i h ds) t env=some o→∃n,bT (fun j ds=>exec F X n j 0 ds) (fun h ds=>exec F X n i h ds) t env=some o
 | .op k args t,env,o,h=>by
  unfold bT at h;obtain⟨ds,h1,h⟩:=xr.1 h;obtain⟨d,h2,h⟩:=xr.1 h;split at h
  ·rename_i hc;obtain⟨n,hn⟩:=tz i t _ _ h;refine⟨n,?_⟩;unfold bT;rw[h1,xB,h2,xB,if_pos hc];exact hn
  ·cases h
 | .aF k args cQ t e,env,o,h=>by
  unfold bT at h;obtain⟨ds,h1,h⟩:=xr.1 h;split at h
  ·rename_i l h2;split at h
   ·rename_i hm;obtain⟨n,hn⟩:=tz i t _ _ h;refine⟨n,?_⟩;unfold bT;rw[h1,xB,h2];simp only [if_pos hm];exact hn
   ·rename_i hm;obtain⟨n,hn⟩:=tz i e _ _ h;refine⟨n,?_⟩;unfold bT;rw[h1,xB,h2];simp only [if_neg hm];exact hn
  ·cases h
 | .br k args t e,env,o,h=>by
  unfold bT at h;obtain⟨ds,h1,h⟩:=xr.1 h;split at h
  ·rename_i h2;obtain⟨n,hn⟩:=tz i t _ _ h;refine⟨n,?_⟩;unfold bT;rw[h1,xB,h2];exact hn
  ·rename_i h2;obtain⟨n,hn⟩:=tz i e _ _ h;refine⟨n,?_⟩;unfold bT;rw[h1,xB,h2];exact hn
  ·cases h
 | .sw k args v t e,env,o,h=>by
  unfold bT at h;obtain⟨ds,h1,h⟩:=xr.1 h;cases h2:aU k ds with
  |none=>rw[h2] at h;cases h
  |some d=>
   rw[h2] at h;simp only at h;split at h
   ·rename_i hv;obtain⟨n,hn⟩:=tz i t _ _ h;refine⟨n,?_⟩;unfold bT;rw[h1,xB,h2];simp only [if_pos hv];exact hn
   ·rename_i hv;obtain⟨n,hn⟩:=tz i e _ _ h;refine⟨n,?_⟩;unfold bT;rw[h1,xB,h2];simp only [if_neg hv];exact hn
 | .note nd t,env,o,h=>by
  unfold bT at h;obtain⟨n,hn⟩:=tz i t _ _ h;exact⟨n,by unfold bT;exact hn⟩
 | .call f j us cQ t e,env,o,h=>by
  unfold bT at h;obtain⟨ds,h1,h⟩:=xr.1 h;obtain⟨cA,h2,h⟩:=xr.1 h;obtain⟨m,kS⟩:=(Dh F X).1 h2;have ap8:∀{n:Nat} {t:DT} {env:List D},bT (fun j ds=>exec F X n j 0 ds) (fun h ds=>exec F X n i h ds) t env=some o→bT (fun j ds=>exec F X (max m n) j 0 ds) (fun h ds=>exec F X (max m n) i h ds) t env=some o:=fun{n t env} e=>
   rI (fun j ds o h=>C3 F X (Nat.le_max_right m n) h) (fun j ds o h=>C3 F X (Nat.le_max_right m n) h) t env o e
  split at h
  ·rename_i hm;obtain⟨n,hn⟩:=tz i t _ _ h;refine⟨max m n,?_⟩;unfold bT;rw[h1,xB,C3 F X (Nat.le_max_left m n) kS,xB,if_pos hm];exact ap8 hn
  ·rename_i hm;obtain⟨n,hn⟩:=tz i e _ _ h;refine⟨max m n,?_⟩;unfold bT;rw[h1,xB,C3 F X (Nat.le_max_left m n) kS,xB,if_neg hm];exact ap8 hn
 | .jump h' m ρ aO us,env,o,h=>by
  unfold bT at h;obtain⟨ds,h1,h⟩:=xr.1 h;obtain⟨n,hn⟩:=(Dh F X).1 h;refine⟨n,?_⟩;unfold bT;rw[h1,xB];exact hn
 | .ret ρ aO us,env,o,h=>by
  unfold bT at h;exact⟨0,by unfold bT;exact h⟩
 | .stop,env,o,h=>by
  unfold bT at h;cases h
def Rn(i h:Nat)(ds:List D)(Q:List D→Prop):Prop:=∃o,run F X i h ds=some o∧Q o
def Wp(i:Nat)(t:DT)(env:List D)(Q:List D→Prop):Prop:=∃o,bT (fun j ds=>run F X j 0 ds) (fun h ds=>run F X i h ds) t env=some o∧Q o
variable{F X}{i h:Nat}{env ds:List D}{Q:List D→Prop}
theorem Rn.of{fd:FD}{s:Hd}{t:DT}(hi:F[i]? =some fd)(hs:fd.hs[h]? =some s)(ht:fd.uR[h]? =some t)(hm:ds.length=s.m)(hw:Wp F X i t ds Q):Rn F X i h ds Q:=by
 obtain⟨o,h1,h2⟩:=hw;obtain⟨n,hn⟩:=tz F X i t ds o h1;refine⟨o,(Dh F X).2 ⟨n+1,?_⟩,h2⟩;unfold exec;rw[hi];simp only;rw[hs,ht];simp only;rw[if_pos hm];exact hn
theorem Rn.ofX{o:List D}(hi:F[i]? =none)(hx:X i ds=some o)(hq:Q o):Rn F X i 0 ds Q:=by
 refine⟨o,(Dh F X).2 ⟨1,?_⟩,hq⟩;unfold exec;rw[hi];exact hx
theorem Rn.mono{Q':List D→Prop}(hr:Rn F X i h ds Q)(hq:∀o,Q o→Q' o):Rn F X i h ds Q':=hr.imp fun o hh=>⟨hh.1,hq o hh.2⟩
theorem Wp.op{k:NK}{args:List xM}{t:DT}{d:D}(h1:aX (cb (lk env)) args=some ds)(h2:aU k ds=some d)(h3:d.cell=true)(h4:Wp F X i t (env++[d]) Q):Wp F X i (.op k args t) env Q:=by
 obtain⟨o,e,q⟩:=h4;refine⟨o,?_,q⟩;unfold bT;rw[h1,xB,h2,xB,if_pos h3];exact e
theorem Wp.aF{k:NK}{args:List xM}{cQ:List (Option xM)}{t e:DT}{l:List D}(h1:aX (cb (lk env)) args=some ds)(h2:aU k ds=some (.agg l))(h3:iy cQ l=true)(h4:Wp F X i t (env++l) Q):Wp F X i (.aF k args cQ t e) env Q:=by
 obtain⟨o,e,q⟩:=h4;refine⟨o,?_,q⟩;unfold bT;rw[h1,xB,h2];simp only [if_pos h3];exact e
theorem Wp.opN{k:NK}{args:List xM}{cQ:List (Option xM)}{t e:DT}{l:List D}(h1:aX (cb (lk env)) args=some ds)(h2:aU k ds=some (.agg l))(h3:iy cQ l=false)(h4:Wp F X i e env Q):Wp F X i (.aF k args cQ t e) env Q:=by
 obtain⟨o,e,q⟩:=h4;refine⟨o,?_,q⟩;unfold bT;rw[h1,xB,h2];simp only [h3];exact e
theorem Wp.CT{k:NK}{args:List xM}{t e:DT}(h1:aX (cb (lk env)) args=some ds)(h2:aU k ds=some (.bool true))(h4:Wp F X i t env Q):Wp F X i (.br k args t e) env Q:=by
 obtain⟨o,e,q⟩:=h4;refine⟨o,?_,q⟩;unfold bT;rw[h1,xB,h2];exact e
theorem Wp.I9{k:NK}{args:List xM}{t e:DT}(h1:aX (cb (lk env)) args=some ds)(h2:aU k ds=some (.bool false))(h4:Wp F X i e env Q):Wp F X i (.br k args t e) env Q:=by
 obtain⟨o,e,q⟩:=h4;refine⟨o,?_,q⟩;unfold bT;rw[h1,xB,h2];exact e
theorem Wp.br{k:NK}{args:List xM}{t e:DT}{b:Bool}(h1:aX (cb (lk env)) args=some ds)(h2:aU k ds=some (.bool b))(ht:b=true→Wp F X i t env Q)(he:b=false→Wp F X i e env Q):Wp F X i (.br k args t e) env Q:=by
 cases b with
 |true=>exact Wp.CT h1 h2 (ht rfl)
 |false=>exact Wp.I9 h1 h2 (he rfl)
theorem Wp.bh{k:NK}{args:List xM}{t e:DT}{p:Prop}[Decidable p](h1:aX (cb (lk env)) args=some ds)(h2:aU k ds=some (.bool (decide p)))(ht:p→Wp F X i t env Q)(he: ¬p→Wp F X i e env Q):Wp F X i (.br k args t e) env Q:=
 Wp.br h1 h2 (fun h=>ht (of_decide_eq_true h)) (fun h=>he (of_decide_eq_false h))
theorem Wp.Ao{k:NK}{args:List xM}{v:xM}{t e:DT}{d:D}(h1:aX (cb (lk env)) args=some ds)(h2:aU k ds=some d)(h3:zi d v=true)(h4:Wp F X i t env Q):Wp F X i (.sw k args v t e) env Q:=by
 obtain⟨o,e,q⟩:=h4;refine⟨o,?_,q⟩;unfold bT;rw[h1,xB,h2];simp only [if_pos h3];exact e
theorem Wp.Td{k:NK}{args:List xM}{v:xM}{t e:DT}{d:D}(h1:aX (cb (lk env)) args=some ds)(h2:aU k ds=some d)(h3:zi d v=false)(h4:Wp F X i e env Q):Wp F X i (.sw k args v t e) env Q:=by
 obtain⟨o,e,q⟩:=h4;refine⟨o,?_,q⟩;unfold bT;rw[h1,xB,h2];simp only [h3];exact e
theorem Wp.note{nd:Node}{t:DT}(h4:Wp F X i t env Q):Wp F X i (.note nd t) env Q:=by
 obtain⟨o,e,q⟩:=h4;exact⟨o,by unfold bT;exact e,q⟩
theorem Wp.call{f j:Nat}{us:List xM}{cQ:List (Option xM)}{t e:DT}{Q':List D→Prop}(h1:aX (bP (lk env)) us=some ds)(h2:Rn F X j 0 ds Q')(h3:∀o,Q' o→(iy cQ o=true∧Wp F X i t (env++o) Q)∨(iy cQ o=false∧Wp F X i e env Q)):Wp F X i (.call f j us cQ t e) env Q:=by
 obtain⟨o,e,q⟩:=h2;rcases h3 o q with⟨m,o',e',q'⟩|⟨m,o',e',q'⟩
 ·refine⟨o',?_,q'⟩;unfold bT;rw[h1,xB,e,xB,if_pos m];exact e'
 ·refine⟨o',?_,q'⟩;unfold bT;rw[h1,xB,e,xB,if_neg (by rw[m];exact Bool.noConfusion)];exact e'
theorem Wp.Rs{f j:Nat}{us:List xM}{cQ:List (Option xM)}{t e:DT}{o:List D}(h1:aX (bP (lk env)) us=some ds)(h2:Rn F X j 0 ds (·=o))(h3:iy cQ o=true)(h4:Wp F X i t (env++o) Q):Wp F X i (.call f j us cQ t e) env Q:=
 Wp.call h1 h2 fun _ e=> .inl (by subst e;exact⟨h3,h4⟩)
theorem Wp.ac1{f j:Nat}{us:List xM}{cQ:List (Option xM)}{t e:DT}{o:List D}(h1:aX (bP (lk env)) us=some ds)(h2:Rn F X j 0 ds (·=o))(h3:iy cQ o=false)(h4:Wp F X i e env Q):Wp F X i (.call f j us cQ t e) env Q:=
 Wp.call h1 h2 fun _ e=> .inr (by subst e;exact⟨h3,h4⟩)
theorem Wp.jump{h' m:Nat}{ρ:List Nat}{aO us:List xM}(h1:aX (bP (lk env)) us=some ds)(h2:Rn F X i h' ds Q):Wp F X i (.jump h' m ρ aO us) env Q:=by
 obtain⟨o,e,q⟩:=h2;refine⟨o,?_,q⟩;unfold bT;rw[h1,xB];exact e
theorem Wp.ret{ρ:List Nat}{aO us:List xM}{o:List D}(h1:aX (bP (lk env)) us=some o)(h2:Q o):Wp F X i (.ret ρ aO us) env Q:=⟨o,by unfold bT;exact h1,h2⟩
end
def wD(P:Program):Nat→xN→Bool
 |0,_=>false
 |n+1,t=>match P.underlying t with
  |some (.int _)=>P.cellsOf t==1
  |some .bool=>P.cellsOf t==1
  |some .string=>P.cellsOf t==1
  |some (.slice e)=>P.cellsOf t==1&&Nat.blt 0 (P.cellsOf e)&&wD P n e
  |some (.struct fs)=>(fs.toList.foldr (fun f k o=>f.offset==o&&wD P n f.type&&k (o+P.cellsOf f.type)) (fun o=>o==P.cellsOf t)) 0
  |_=>false
mutual
inductive TR (P:Program):xN→List D→Prop
 |int {t:xN} {k:xO} {n:Int} (h:P.underlying t=some (.int k)) (hw:(Lit.int k n).wf=true):TR P t [.int k n]
 |bool {t:xN} {b:Bool} (h:P.underlying t=some .bool):TR P t [.bool b]
 |str {t:xN} {l:List UInt8} (h:P.underlying t=some .string) (hw:l.length≤maxLen):TR P t [.str l]
 |slice {t e:xN} {rows:List (List D)} (h:P.underlying t=some (.slice e)) (hl:rows.length≤maxLen) (hr:∀row∈rows,TR P e row):TR P t [.sl rows]
 |struct {t:xN} {fs:Array Field} {ds:List D} (h:P.underlying t=some (.struct fs)) (hf:uU P fs.toList ds):TR P t ds
inductive uU (P:Program):List Field→List D→Prop
 |nil:uU P [] []
 |cons {f:Field} {r:List Field} {a b:List D} (h:TR P f.type a) (hr:uU P r b):uU P (f::r) (a++b)
end
section
variable{P:Program}{t:xN}{ds:List D}
theorem TR.bf2{k:xO}(hu:P.underlying t=some (.int k))(h:TR P t ds):∃n,ds=[.int k n]∧(Lit.int k n).wf=true:=by
 cases h with
 |int h hw=>rw[hu] at h;cases h;exact⟨_,rfl,hw⟩
 |bool h=>rw[hu] at h;cases h
 |str h=>rw[hu] at h;cases h
 |slice h=>rw[hu] at h;cases h
 |struct h=>rw[hu] at h;cases h
theorem TR.Og{e:xN}(hu:P.underlying t=some (.slice e))(h:TR P t ds):∃rows,ds=[.sl rows]∧rows.length≤maxLen∧∀row∈rows,TR P e row:=by
 cases h with
 |int h hw=>rw[hu] at h;cases h
 |bool h=>rw[hu] at h;cases h
 |str h=>rw[hu] at h;cases h
 |slice h hl hr=>rw[hu] at h;cases h;exact⟨_,rfl,hl,hr⟩
 |struct h=>rw[hu] at h;cases h
theorem TR.N0{fs:Array Field}(hu:P.underlying t=some (.struct fs))(h:TR P t ds):uU P fs.toList ds:=by
 cases h with
 |int h hw=>rw[hu] at h;cases h
 |bool h=>rw[hu] at h;cases h
 |str h=>rw[hu] at h;cases h
 |slice h=>rw[hu] at h;cases h
 |struct h hf=>rw[hu] at h;cases h;exact hf
theorem uU.cons_inv{f:Field}{r:List Field}(h:uU P (f::r) ds):∃a b,ds=a++b∧TR P f.type a∧uU P r b:=by
 cases h with|cons h hr=>exact⟨_,_,rfl,h,hr⟩
theorem uU.Pe(h:uU P [] ds):ds=[]:=by cases h;rfl
end
theorem JS{α:Type}{f:α→List D}:∀{rows:List (List D)},(∀row∈rows,∃a,row=f a)→∃l:List α,rows=l.map f
 |[],_=>⟨[],rfl⟩
 |r::rows,h=>by
  obtain⟨a,rfl⟩:=h r xn;obtain⟨l,rfl⟩:=JS (rows:=rows) fun x hx=>h x (xo _ hx)
  exact⟨a::l,rfl⟩
def zW(W:World):Nat→Option (Array xM):=fun b=>match W.heap[b]? with|some (.cells cs _ _)=>some cs|_=>none
theorem aN6(W:World):wK (zW W) W:=fun b cs h=>by
 unfold zW at h;split at h
 ·rename_i bC e fz hb;cases h;exact⟨e,fz,hb⟩
 ·cases h
def ue(W:World)(ds:List D)(cs:List xM):Prop:=ds.length=cs.length∧(∀d∈ds,d.cell=true)∧∀(i:Nat) (d:D) (v:xM),ds[i]? =some d→cs[i]? =some v→Rd (zW W) d v
theorem Dr{W:World}{d:D}{v:xM}(hc:d.cell=true)(h:Rd (zW W) d v):ue W [d] [v]:=by
 refine⟨rfl,fun x hx=>by rw[xy.1 hx];exact hc,fun i d' v' h1 h2=> ?_⟩;cases i with
 |zero=>simp at h1 h2;subst h1;subst h2;exact h
 |succ i=>simp at h1
theorem ue.app{W:World}{a b:List D}{x y:List xM}(h:ue W a x)(k:ue W b y):ue W (a++b) (x++y):=by
 refine⟨by rw[xa,xa,h.1,k.1],fun d hd=>(xF.1 hd).elim (h.2.1 d) (k.2.1 d),fun i d v h1 h2=> ?_⟩;by_cases hi:i<a.length
 ·rw[xw hi] at h1;rw[xw (h.1▸hi)] at h2;exact h.2.2 i d v h1 h2
 ·rw[xq (by omega)] at h1;rw[xq (by rw[←h.1];omega),←h.1] at h2;exact k.2.2 _ d v h1 h2
section
variable{P:Program}{H:Type}{enc:xN×xM→H}{W:World}
theorem PC{W:World}{a:Addr}{v:xM}(h:W.cell? a=some v):a.spot=none∧∃cs,zW W a.block=some cs∧cs[a.off]? =some v:=by
 unfold World.cell? at h;split at h
 ·rename_i c e fz hb;split at h
  ·cases h
  ·rename_i hs;refine⟨by simpa using hs,c,by unfold zW;rw[hb],h⟩
 ·cases h
theorem UW{n:Nat}{total:Nat}{cs:List xM}{xs:List (DataW H×List MemPlace)}(IH:∀(t:xN) (aN:Nat) (cs:List xM) (x:DataW H×List MemPlace),wD P n t=true→DataW.trod enc P W 0 (fun _=>true) true aN t cs=some x→∃ds,TR P t ds∧ue W ds cs)(cw:cs.length=total){m:Nat}:
 ∀(fs:List Field) (o:Nat),(fs.foldr (fun f k o=>f.offset==o&&wD P n f.type&&k (o+P.cellsOf f.type)) (fun o=>o==total)) o=true→
  (∀f∈fs,∃x,DataW.trod enc P W 0 (fun _=>true) true m f.type ((cs.drop f.offset).take (P.cellsOf f.type))=some x)→
  o≤total→∃ds,uU P fs ds∧ue W ds (cs.drop o)
 |[],o,h,_,_=>by
  have h:o=total:=by simpa using h
  subst h;refine⟨[],.nil,?_,fun d hd=>by simp at hd,fun i d v h1=>by simp at h1⟩;simp[cw]
 |f::fs,o,h,hx,ho=>by
  simp only [List.foldr_cons,xf,beq_iff_eq] at h;obtain⟨⟨h1,h2⟩,h3⟩:=h;obtain⟨x,nv⟩:=hx f xn;rw[h1] at nv;obtain⟨ds,t1,t2⟩:=IH _ _ _ _ h2 nv;by_cases aK:o+P.cellsOf f.type≤total
  ·obtain⟨cA,t3,t4⟩:=UW (total:=total) (xs:=xs) IH cw fs _ h3 (fun g hg=>hx g (xo _ hg)) aK;refine⟨ds++cA,.cons t1 t3,?_⟩;have e:cs.drop o=(cs.drop o).take (P.cellsOf f.type)++cs.drop (o+P.cellsOf f.type):=by
    rw[←List.drop_drop,List.take_append_drop]
   rw[e];exact t2.app t4
  ·exfalso;have:∀(gs:List Field) (o:Nat),(gs.foldr (fun f k o=>f.offset==o&&wD P n f.type&&k (o+P.cellsOf f.type)) (fun o=>o==total)) o=true→o≤total:=by
    intro gs
    induction gs with
    |nil=>
     intro o h;have:o=total:=by simpa using h
     omega
    |cons g gs ih=>
     intro o h;simp only [List.foldr_cons,xf,beq_iff_eq] at h;have:=ih _ h.2;omega
   exact aK (this _ _ h3)
theorem UB:∀(n:Nat) (t:xN) (aN:Nat) (cs:List xM) (x:DataW H×List MemPlace),wD P n t=true→DataW.trod enc P W 0 (fun _=>true) true aN t cs=some x→∃ds,TR P t ds∧ue W ds cs:=by
 intro n
 induction n with
 |zero=>intro t aN cs x h;cases h
 |succ n ih=>
  intro t aN cs x hp h;unfold wD at hp;split at hp
  ·rename_i k hu;obtain⟨z,rfl,_,hw⟩:=DataW.trod_int hu h;exact⟨_,.int hu hw,Dr rfl (.int _ _)⟩
  ·rename_i hu;obtain⟨b,rfl,_⟩:=DataW.trod_bool hu h;exact⟨_,.bool (b:=b) hu,Dr rfl (.bool _)⟩
  ·rename_i hu;obtain⟨s,rfl,_,hs⟩:=DataW.trod_string hu h;refine⟨[.str s.data.toList],.str hu (by rw[Array.length_toList];exact hs),Dr rfl ?_⟩;have:s=⟨⟨s.data.toList⟩⟩:=by cases s;rfl
   exact this▸Rd.str s.data.toList
  ·rename_i e hu;simp only [xf,beq_iff_eq] at hp;obtain⟨⟨yB,aY⟩,bF⟩:=hp;have aY:0<P.cellsOf e:=by simpa using aY
   rcases Deep.open_slice hu h with⟨rfl,_⟩|⟨a,len,cap,m,fu,DD,Pl,rfl,_,cR,hcm,hm,_,hi⟩
   ·exact⟨[.sl []],.slice hu (xL _) (fun r hr=>by simp at hr),Dr rfl .sT⟩
   ·have hm:m=cap:=by simpa using hm
    subst hm;have el:∀i,i<m→∃ds bC,W.cells? 0 (a.add (i*P.cellsOf e)) (P.cellsOf e)=some bC∧TR P e ds∧ue W ds bC:=fun i bg=>by
     obtain⟨bC,h1,h2⟩:=hi i bg;obtain⟨ds,t1,t2⟩:=ih _ _ _ _ bF h2;exact⟨ds,bC,h1,t1,t2⟩
    by_cases h0:len=0
    ·subst h0;exact⟨[.sl []],.slice hu (xL _) (fun r hr=>by simp at hr),Dr rfl (.n8 _ _)⟩
    ·
     have first:∃v,W.cell? a=some v:=by
      obtain⟨ds,bC,h1,_,_⟩:=el 0 (by omega);obtain⟨_,hl,ap⟩:=World.cells?_some h1;have:=ap 0 aY;rw[Nat.zero_mul,Addr.add_zero',Addr.add_zero',xc (by omega)] at this;exact⟨_,this⟩
     obtain⟨v0,hv0⟩:=first
     obtain⟨TS,cells,hz,_⟩:=PC hv0;obtain⟨b,off,sp⟩:=a;simp only at TS hz;subst TS;have get:∀i,i<m→∃ds,TR P e ds∧ds.length=P.cellsOf e∧(∀d∈ds,d.cell=true)∧∀(j:Nat) (d:D) (v:xM),ds[j]? =some d→cells[off+(i*P.cellsOf e+j)]? =some v→Rd (zW W) d v:=fun i bg=>by
      obtain⟨ds,bC,h1,t1,t2⟩:=el i bg;obtain⟨_,hl,ap⟩:=World.cells?_some h1;refine⟨ds,t1,t2.1.trans hl,t2.2.1,fun j d v hd hv=> ?_⟩;have hj:j<bC.length:=by rw[←t2.1];exact(xe.1 hd).1
      have h3:=ap j (by omega);rw[Addr.add_lit,Addr.add_lit] at h3;rw[xc hj] at h3;obtain⟨_,FW,dX,cM⟩:=PC h3;simp only at dX cM;rw[hz] at dX;cases dX;rw[Nat.add_assoc,hv] at cM;exact t2.2.2 j d v hd (by rw[xc hj];exact cM.symm)
     have aT:off+m*P.cellsOf e≤cells.size:=by
      obtain⟨ds,bC,h1,t1,t2⟩:=el (m - 1) (by omega);obtain⟨_,hl,ap⟩:=World.cells?_some h1;have h3:=ap (P.cellsOf e - 1) (by omega);rw[Addr.add_lit,Addr.add_lit,xc (by omega)] at h3;obtain⟨_,FW,dX,cM⟩:=PC h3;simp only at dX cM;rw[hz] at dX;cases dX;have h4:=(Array.getElem?_eq_some_iff.1 cM).1;have h5:(m - 1)*P.cellsOf e+P.cellsOf e=m*P.cellsOf e:=by
       rw[←Nat.succ_mul];congr 1;omega
      omega
     obtain⟨rows,eC,bK⟩:∃rows:List (List D),rows.length=len∧∀i row,rows[i]? =some row→TR P e row∧row.length=P.cellsOf e∧(∀d∈row,d.cell=true)∧∀(j:Nat) (d:D) (v:xM),row[j]? =some d→cells[off+(i*P.cellsOf e+j)]? =some v→Rd (zW W) d v:=by
      have:∀k,k≤len→∃rows:List (List D),rows.length=k∧∀i row,rows[i]? =some row→TR P e row∧row.length=P.cellsOf e∧(∀d∈row,d.cell=true)∧∀(j:Nat) (d:D) (v:xM),row[j]? =some d→cells[off+(i*P.cellsOf e+j)]? =some v→Rd (zW W) d v:=by
       intro k
       induction k with
       |zero=>exact fun _=>⟨[],rfl,fun i row h=>by simp at h⟩
       |succ k ihk=>
        intro hk;obtain⟨rows,g1,g2⟩:=ihk (by omega);obtain⟨ds,g3⟩:=get k (by omega);refine⟨rows++[ds],by rw[xa,g1];rfl,fun i row fI=> ?_⟩;by_cases hik:i<rows.length
        ·rw[xw hik] at fI;exact g2 i row fI
        ·have hl:=(xe.1 fI).1;rw[xa] at hl;have:i=rows.length:=by
          have:[ds].length=1:=rfl;omega
         subst this;rw[xq (xk _),Nat.sub_self] at fI;cases fI;rw[g1];exact g3
      exact this len (xk _)
     refine⟨[.sl rows],.slice hu (by omega) (fun row fI=> ?_),Dr rfl ?_⟩
     ·obtain⟨i,uK,rfl⟩:=List.getElem_of_mem fI;exact(bK i _ (xc uK)).1
     ·have:=Rd.sl (z:=zW W) rows (P.cellsOf e) b off m cells hz (fun h=>by rw[h] at eC;simp at eC;omega) (fun row fI=>by
       obtain⟨i,uK,rfl⟩:=List.getElem_of_mem fI;exact(bK i _ (xc uK)).2.1) (by omega) aT (fun i row j d v h1 h2 h3=>(bK i row h1).2.2.2 j d v h2 h3)
      rw[eC] at this;exact this
  ·rename_i fs hu;obtain⟨xs,m,rfl,_,aC,hxl,hf⟩:=DataW.trod_struct hu h;obtain⟨ds,t1,t2⟩:=UW (n:=n) (total:=P.cellsOf t) (xs:=xs) (m:=m) ih aC fs.toList 0 hp (fun f T6=>by
    obtain⟨i,uK,he⟩:=List.getElem_of_mem T6;have h1:fs[i]? =some f:=by
     rw[←he,←Array.getElem?_toList];exact xc uK
    have h2:=hf i f h1;have h3:i<xs.length:=by rw[hxl];simpa using uK
    rw[xc h3] at h2;exact⟨_,h2⟩) (xL _)
   exact⟨ds,.struct hu t1,t2⟩
  ·cases hp
end
theorem aL8{P:Program}{LL:World→Prop}{k:Nat}{L:List (Option ao)}{f:FuncId}(hc:∀w,LL w→L.length≤w.heap.size→Calls P f #[] w fun e w'=>e= .returned (.bool true)∧Below w.heap.size w w'):v9 P LL k L f ⟨[],[],0,.chan (some 1),[]⟩ [] [.bool true]:=by
 intro w β args' inv hd fB;obtain rfl:args'=[]:=xA fB.1.symm;refine(hc w inv.lay inv.jA).mono fun e w' ⟨he,hb⟩=> ?_
 let ah:af:={β with d:=fun c=>if c=0 then some (.bool true) else none}
 have aK:β.vN ah:=⟨fun _ _ h=>h,fun _ _ h=>h,fun _ _ h=>h,fun c d h=>by rw[hd] at h;simp at h⟩;refine⟨_,ah,he,⟨⟨hb.os,hb.tape,hb.output,hb.size,fun k hk _=>hb.block k hk⟩,inv.g9,inv.dz,fun B l h=>⟨xK (inv.loc B l h).1 hb.size,(inv.loc B l h).2⟩,inv.inj,fun B aj l h1 h2=> ?_,inv.jg,fun b cs h=> ?_,inv.sep,fun nd _=>trivial,fun B aj h=>(inv.own B aj h).jc aK,inv.jf,inv.lay,inv.xg,inv.jA,inv.zo⟩,.sym 0 (.bool true) _ rfl rfl (.bool true),fun _ _=>rfl,fun _ _ h=>h,fun c d h=> ?_,rfl⟩
 ·rw[hb.block _ (inv.loc B l h2).1];exact(inv.cont B aj l h1 h2).jc aK
 ·obtain⟨e,fz,h1⟩:=inv.bB b cs h;exact⟨e,fz,by rw[hb.block b (Array.getElem?_eq_some_iff.1 h1).1];exact h1⟩
 ·cases c with
  |zero=>cases h;rfl
  |succ c=>simp at h
section
variable{P:Program}{LL:World→Prop}{k:Nat}{L:List (Option ao)}
theorem aH6{f:FuncId}{sg:aD}{ds:List D}{b:Bool}(hp:sg.hp=[])(TU:sg.rv= .chan (some 1))(h:v9 P LL k L f sg ds [.bool b]){w:World}(hL:Bo L w)(Uf:LL w)(aT:L.length≤w.heap.size){args':List xM}
 (fB:aP (x6 L (fun c=>ds[c]?) (zW w)) sg.args args'):Calls P f ⟨args'⟩ w fun e w'=>e= .returned (.bool b)∧Below w.heap.size w w':=by
 have inv:Inv w (G0 L LL) (x6 L (fun c=>ds[c]?) (zW w)) ((nR sg.hp).aw k L []) w:=by
  have h0:=Of (k:=k) hL (fun _ _=>True) LL (fun c=>ds[c]?) (zW w) [] Uf aT (aN6 w) (fun nd h=>by cases h);have e:(nR sg.hp).aw k L []=(fA k L).pop []:=by
   rw[hp];show(fA k (aa L (Bw []))).pop []=_;rw[show aa L (Bw [])=L from ?_];rw[jm];exact xj L
  rw[e];exact h0
 refine(h w _ args' inv rfl fB).mono fun e w' ⟨v,ah,he,B8,hv,_,_,Sx,hx⟩=>⟨?_,?_⟩
 ·rw[TU] at hv;have hd:=Sx 0 (.bool b) rfl;cases hv with
  |sym c d v h hc hr=>rw[hd] at h;cases h;cases hr;exact he
 ·refine B8.below.below fun k hk=> ?_
  rw[hx] at hk;exact hk
end
def Mv(p:FD→Prop):List FD→Prop|[]=>True|fd::l=>p fd∧Mv p l
theorem Mv.get{p:FD→Prop}:∀{l:List FD},Mv p l→∀(i:Nat) (fd:FD),l[i]? =some fd→p fd
 |[],_,i,fd,h=>by simp at h
 |x::l,ha,0,fd,h=>by cases h;exact ha.1
 |x::l,ha,i+1,fd,h=>ha.2.get i fd h
theorem bQ3{β:af}{ds:List D}{cs:List xM}{a n:Nat}(hn:ds.length=n)(h:∀(i:Nat) (d:D) (v:xM),ds[i]? =some d→cs[i]? =some v→β.d (a+i)=some d∧d.cell=true∧Rd β.z d v)(hl:ds.length=cs.length){us:List xM}(hu:us=(List.range n).map fun i=>Value.chan (some (a+i+1))):ai β (.agg ⟨us⟩) (.agg ⟨cs⟩):=by
 refine .agg us cs (by rw[hu,xm,List.length_range];omega) fun i v v' h1 h2=> ?_
 subst hu;rw[xx] at h1;obtain⟨j,hj,rfl⟩:=xp.1 h1;obtain⟨hj1,fL⟩:=xe.1 hj;rw[List.getElem_range] at fL;subst fL;rw[List.length_range] at hj1;obtain⟨e1,e2,e3⟩:=h i _ v' (xc (by omega)) h2;exact .sym (a+i) _ _ e1 e2 e3
end
end Go.Ex
