/- What these functions answer. -/
import Derived.Test.YthicpeihkkokmaaGreatDoorP4
set_option linter.unusedVariables false
set_option linter.unusedSimpArgs false
set_option maxHeartbeats 4000000
set_option maxRecDepth 100000
namespace Go.Proofs.YthicpeihkkokmaaGreatDoor
open Go.Ex Go.RowKit Go.Fl
variable{c k n t:Nat}{fl:List Fg}{vs:List Vr}{e:Fl.Ex}
section
variable{X:Bv}
theorem Cl{c':Nat}(h1:c<200)(h2:c'<200)(h3:k<200)(h4:n<=100)(h:c≠c'):nm c k∉aP c' n:=fun hm=>by
 obtain⟨j,hj,e⟩:=xJ.1 hm;have:=List.mem_range.1 hj;exact h (qW h2 h1 MK h3 e).1.symm
theorem Zd(h:k<n):nm c k∈aP c n:=xJ.2 ⟨k,List.mem_range.2 h,rfl⟩
theorem Pz(hn:n<=3)(ht:t<=1)(hk:k<n):ql (bV n t) (nm 120 k)=some ⟨nm 120 k,1,k⟩:=by
 have a:n=1\/n=2\/n=3:=MK
 have b:t=0\/t=1:=MK
 have c:k=0\/k=1\/k=2:=MK
 rcases a with rfl|rfl|rfl<;>rcases b with rfl|rfl<;>rcases c with rfl|rfl|rfl<;>first|rfl|omega
theorem PB(hn:n<=3)(ht:t<=1):ql (bV n t) (nm 98 0)=some ⟨nm 98 0,2,0⟩:=by
 have a:n=0\/n=1\/n=2\/n=3:=MK
 have b:t=0\/t=1:=MK
 rcases a with rfl|rfl|rfl|rfl<;>rcases b with rfl|rfl<;>rfl
theorem PA(hn:n<=3)(ht:t<=1)(h:0<t):ql (bV n t) (nm 116 0)=some ⟨nm 116 0,3,0⟩:=by
 have a:n=0\/n=1\/n=2\/n=3:=MK
 obtain rfl:t=1:=MK
 rcases a with rfl|rfl|rfl|rfl<;>rfl
theorem UM{v:Vr}(h:v∈bV n t):∃c k,v.name=nm c k/\(c=120/\k<n\/c=98/\k=0\/c=116/\k<t):=by
 rcases xF.1 h with h|h
 ·obtain⟨j,hj,rfl⟩:=xJ.1 h;exact⟨120,j,rfl,.inl ⟨rfl,List.mem_range.1 hj⟩⟩
 ·rcases xG.1 h with rfl|h
  ·exact⟨98,0,rfl,.inr (.inl ⟨rfl,rfl⟩)⟩
  ·obtain⟨j,hj,rfl⟩:=xJ.1 h;exact⟨116,j,rfl,.inr (.inr ⟨rfl,List.mem_range.1 hj⟩)⟩
theorem XG(hn:n<=3)(ht:t<=1)(hc:c<200)(hk:k<200)(h:c≠120/\c≠98/\c≠116):ql (bV n t) (nm c k)=none:=by
 refine List.find?_eq_none.2 (fun v hv=> ?_);obtain⟨c',k',e,h'⟩:=UM hv;rw[e];intro he;have he:nm c' k'=nm c k:=by simpa using he
 have:=qW MK hc MK hk he;omega
theorem MP(n t:Nat):(bV n t).length=n+1+t:=by simp[bV,rX];omega
def D3(fl:List Fg)(n:Nat):Prop:=fl.length=n/\∀k x,fl[k]? =some x->x.name=nm 102 k
theorem aH2(h:D3 fl n)(hk:k<n):ud fl (nm 102 k)=true:=by
 have fq:k<fl.length:=by rw[h.1];exact hk
 exact List.any_eq_true.2 ⟨fl[k],List.getElem_mem fq,by rw[h.2 k _ (xc fq)];simp⟩
theorem OI{s:aq}(h:D3 fl n)(hs:∀k,k<n->nm 102 k≠s):ud fl s=false:=by
 refine List.any_eq_false.2 (fun x hx=> ?_);obtain⟨i,hi⟩:=qf hx;have:=iB hi;rw[h.2 i x hi];simpa using hs i (by rw[<-h.1];exact this)
abbrev m9(fl:List Fg)(vs:List Vr)(ps:L5):Di:=[.sl (fl.map Fg.d),.sl (vs.map Vr.s),.sl (strs ps)]
variable{ints tables flags params:Nat}
section
variable(hi:ints<=3)(ht:tables<=1)(hf:D3 fl flags)(bK:flags<=2)(hp:params<=2)
include hi ht hf bK hp
theorem yz:fl.length<=1000/\(bV ints tables).length<=1000/\(aP 112 params).length<=1000:=by
 have:=MP ints tables;have:=hf.1;have:(aP 112 params).length=params:=by simp[aP]
 omega
theorem aX9(hk:k<params):Rn F X 60 0 (m9 fl (bV ints tables) (aP 112 params)++[.str (nm 112 k)]) (·=[bD 1,iD 0]):=by
 obtain⟨l1,l2,l3⟩:=yz hi ht hf bK hp;have c1:=wW (X:=X) l3 (nm 112 k);rw[u_ (Zd hk)] at c1;exact wr Y<|wl Y c1 Y<|wt Y Y
theorem aX8(hk:k<ints):Rn F X 60 0 (m9 fl (bV ints tables) (aP 112 params)++[.str (nm 120 k)]) (·=[bD 1,iD 0]):=by
 obtain⟨l1,l2,l3⟩:=yz hi ht hf bK hp;have c1:=wW (X:=X) l3 (nm 120 k);rw[f_ (Cl MK MK MK MK MK)] at c1;have c2:=wU (X:=X) l2 (nm 120 k);rw[Pz hi ht hk] at c2;exact wr Y<|wl Y c1 Y<|wl Y c2 Y<|w9<|wg 1 Y<|wt Y Y
theorem aY1:Rn F X 60 0 (m9 fl (bV ints tables) (aP 112 params)++[.str (nm 98 0)]) (·=[bD 2,iD 0]):=by
 obtain⟨l1,l2,l3⟩:=yz hi ht hf bK hp;have c1:=wW (X:=X) l3 (nm 98 0);rw[f_ (Cl MK MK MK MK MK)] at c1;have c2:=wU (X:=X) l2 (nm 98 0);rw[PB hi ht] at c2;exact wr Y<|wl Y c1 Y<|wl Y c2 Y<|w9<|wg 1 Y<|wt Y Y
theorem aY0(hk:k<flags):Rn F X 60 0 (m9 fl (bV ints tables) (aP 112 params)++[.str (nm 102 k)]) (·=[bD 2,iD 0]):=by
 obtain⟨l1,l2,l3⟩:=yz hi ht hf bK hp;have c1:=wW (X:=X) l3 (nm 102 k);rw[f_ (Cl MK MK MK MK MK)] at c1;have c2:=wU (X:=X) l2 (nm 102 k);rw[XG hi ht MK MK MK] at c2;have c3:=FC (X:=X) l1 (nm 102 k);rw[aH2 hf hk] at c3;exact wr Y<|wl Y c1 Y<|wl Y c2 Y<|w9<|wl Y c3 Y<|wt Y Y
theorem bh0(hk:k<ints):Rn F X 59 0 (m9 fl (bV ints tables) (aP 112 params)++[.str (nm 120 k)]) (·=CT (ql (bV ints tables) (nm 120 k))):=by
 obtain⟨l1,l2,l3⟩:=yz hi ht hf bK hp;have c1:=wW (X:=X) l3 (nm 120 k);rw[f_ (Cl MK MK MK MK MK)] at c1;have c2:=wU (X:=X) l2 (nm 120 k);rw[Pz hi ht hk] at c2⊢;exact wr Y<|wl Y c1 Y<|wl Y c2 Y<|w9<|wt Y Y
theorem bh1:Rn F X 59 0 (m9 fl (bV ints tables) (aP 112 params)++[.str (nm 98 0)]) (·=CT (ql (bV ints tables) (nm 98 0))):=by
 obtain⟨l1,l2,l3⟩:=yz hi ht hf bK hp;have c1:=wW (X:=X) l3 (nm 98 0);rw[f_ (Cl MK MK MK MK MK)] at c1;have c2:=wU (X:=X) l2 (nm 98 0);rw[PB hi ht] at c2⊢;exact wr Y<|wl Y c1 Y<|wl Y c2 Y<|w9<|wt Y Y
theorem YZ(h:0<tables):Rn F X 59 0 (m9 fl (bV ints tables) (aP 112 params)++[.str (nm 116 0)]) (·=CT (ql (bV ints tables) (nm 116 0))):=by
 obtain⟨l1,l2,l3⟩:=yz hi ht hf bK hp;have c1:=wW (X:=X) l3 (nm 116 0);rw[f_ (Cl MK MK MK MK MK)] at c1;have c2:=wU (X:=X) l2 (nm 116 0);rw[PA hi ht h] at c2⊢;exact wr Y<|wl Y c1 Y<|wl Y c2 Y<|w9<|wt Y Y
theorem NI(h:0<tables):Rn F X 61 0 (m9 fl (bV ints tables) (aP 112 params)++[.str (nm 116 0)]) (·=[iD 0]):=by
 have c2:=YZ (X:=X) hi ht hf bK hp h;rw[PA hi ht h] at c2;exact wr Y<|wl Y c2 Y<|w8<|wg 1 Y<|wt Y Y
omit hi ht hf bK hp in
theorem zI{ps:L5}(t:Nat)(n:aq):Rn F X 62 0 (m9 fl vs ps++[bD t,.str n,iD 0]) (·=[bD t,.str [],iD 0]):=by
 exact wr Y<|wg 1 Y<|wt Y Y
omit hi ht hf bK hp in
theorem oO{ps:L5}{l:List Fl.Ex}(hl:l.length<=2)(h:∀e∈l,Rn F X 63 0 (m9 fl vs ps++Ex.s e) (·=[bD t,.str [],iD 0])):Rn F X 64 0 (m9 fl vs ps++[.sl (Ex.ss l)]) (·=[bD (if l=[] then 0 else t),.str [],iD 0]):=by
 have loop:∀(aa V:List Fl.Ex),l=V++aa->Rn F X 64 1 ([bD (if V=[] then 0 else t),.sl (Ex.ss l),jD l.length,jD V.length]++m9 fl vs ps) (·=[bD (if l=[] then 0 else t),.str [],iD 0]):=by
  intro aa
  induction aa with
  |nil=>
   intro V hp;rw[xj] at hp;subst hp;exact wr Y<|w7<|wn Y af<|wt Y Y
  |cons a aa ih=>
   intro V hp;have aE:=bC hp;have ao:(Ex.ss l)[V.length]? =some (Ex.s a):=by rw[hp];exact qe _ _ _
   have ha:=h a (by rw[hp];simp);have next:=ih (V++[a]) (by rw[hp,bA]);rw[xa,j_ NS] at next;obtain⟨o1,n1,i1,a1⟩:=a;rcases V with _|⟨b,V⟩
   ·exact wr Y<|w7<|wy Y af<|wo Y (ax ao Y)<|wg 1 Y<|lS<|wl Y ha rfl<|wg 2 Y<|Wp.dt Y ay rfl<|wo Y oA<|wj next
   ·rw[j_ NS];exact wr Y<|w7<|wy Y af<|wo Y (ax ao Y)<|wg 1 Y<|lS<|wl Y ha rfl<|wg 1 Y<|Wp.c8 Y ay Of<|Wp.dt Y ay rfl<|wo Y oA<|wj next
 exact wr Y<|wo Y (au (gf _))<|wj (loop l [] rfl)
theorem C1{d:Nat}(h:fD ⟨ints,tables,flags,params⟩ d e):Rn F X 63 0 (m9 fl (bV ints tables) (aP 112 params)++Ex.s e) (·=[bD 1,.str [],iD 0]):=by
 induction h with
 |num n h=>
  have c0:=oO (X:=X) (fl:=fl) (vs:=bV ints tables) (ps:=aP 112 params) (l:=[]) (t:=0) NS (fun e h=>by cases h);exact wr Y<|w7<|wl Y c0 Y<|wg 2 Y<|wt Y Y
 |var k h=>
  have c0:=oO (X:=X) (fl:=fl) (vs:=bV ints tables) (ps:=aP 112 params) (l:=[]) (t:=0) NS (fun e h=>by cases h);have c1:=aX8 (X:=X) hi ht hf bK hp h;have c2:=zI (X:=X) (fl:=fl) (vs:=bV ints tables) (ps:=aP 112 params) 1 (nm 120 k);exact wr Y<|w7<|wl Y c0 Y<|wg 6 Y<|wl Y c1 Y<|wl Y c2 Y<|wt Y Y
 |lW k h=>
  have c0:=oO (X:=X) (fl:=fl) (vs:=bV ints tables) (ps:=aP 112 params) (l:=[]) (t:=0) NS (fun e h=>by cases h);have c1:=aX9 (X:=X) hi ht hf bK hp h;have c2:=zI (X:=X) (fl:=fl) (vs:=bV ints tables) (ps:=aP 112 params) 1 (nm 112 k);exact wr Y<|w7<|wl Y c0 Y<|wg 6 Y<|wl Y c1 Y<|wl Y c2 Y<|wt Y Y
 |now=>
  have c0:=oO (X:=X) (fl:=fl) (vs:=bV ints tables) (ps:=aP 112 params) (l:=[]) (t:=0) NS (fun e h=>by cases h);exact wr Y<|w7<|wl Y c0 Y<|wg 3 Y<|wt Y Y
 | @get d h e he ih=>
  have c0:=oO (X:=X) (fl:=fl) (vs:=bV ints tables) (ps:=aP 112 params) (l:=[e]) (t:=1) NS (fun a h=>by rw[xy] at h;subst h;exact ih);have c1:=NI (X:=X) hi ht hf bK hp h;have c2:=zI (X:=X) (fl:=fl) (vs:=bV ints tables) (ps:=aP 112 params) 1 (nm 116 0);exact wr Y<|w7<|wl Y c0 Y<|wg 19 Y<|wl Y c1 Y<|wl Y c2 Y<|wt Y Y
 |size h=>
  have c0:=oO (X:=X) (fl:=fl) (vs:=bV ints tables) (ps:=aP 112 params) (l:=[]) (t:=0) NS (fun e h=>by cases h);have c1:=NI (X:=X) hi ht hf bK hp h;have c2:=zI (X:=X) (fl:=fl) (vs:=bV ints tables) (ps:=aP 112 params) 1 (nm 116 0);exact wr Y<|w7<|wl Y c0 Y<|wg 7 Y<|wl Y c1 Y<|wl Y c2 Y<|wt Y Y
 | @neg d e he ih=>
  have c0:=oO (X:=X) (fl:=fl) (vs:=bV ints tables) (ps:=aP 112 params) (l:=[e]) (t:=1) NS (fun a h=>by rw[xy] at h;subst h;exact ih);exact wr Y<|w7<|wl Y c0 Y<|wg 20 Y<|wt Y Y
 | @bin d op h1 h2 a b ha hb kw dO=>
  have c0:=oO (X:=X) (fl:=fl) (vs:=bV ints tables) (ps:=aP 112 params) (l:=[a,b]) (t:=1) NS (fun a h=>by
   rcases xG.1 h with rfl|h
   ·exact kw
   ·rw[xy] at h;subst h;exact dO)
  have:op=11\/op=12\/op=13\/op=14\/op=15:=MK
  rcases this with rfl|rfl|rfl|rfl|rfl
  ·exact wr Y<|w7<|wl Y c0 Y<|wg 20 Y<|wt Y Y
  ·exact wr Y<|w7<|wl Y c0 Y<|wg 20 Y<|wt Y Y
  ·exact wr Y<|w7<|wl Y c0 Y<|wg 20 Y<|wt Y Y
  ·exact wr Y<|w7<|wl Y c0 Y<|wg 20 Y<|wt Y Y
  ·exact wr Y<|w7<|wl Y c0 Y<|wg 20 Y<|wt Y Y
theorem bh5{d:Nat}(h:jS ⟨ints,tables,flags,params⟩ d e):Rn F X 63 0 (m9 fl (bV ints tables) (aP 112 params)++Ex.s e) (·=[bD 2,.str [],iD 0]):=by
 induction h with
 |lit op h1 h2=>
  have c0:=oO (X:=X) (fl:=fl) (vs:=bV ints tables) (ps:=aP 112 params) (l:=[]) (t:=0) NS (fun e h=>by cases h);have:op=2\/op=3:=MK
  rcases this with rfl|rfl
  ·exact wr Y<|w7<|wl Y c0 Y<|wg 4 Y<|wt Y Y
  ·exact wr Y<|w7<|wl Y c0 Y<|wg 5 Y<|wt Y Y
 |b0=>
  have c0:=oO (X:=X) (fl:=fl) (vs:=bV ints tables) (ps:=aP 112 params) (l:=[]) (t:=0) NS (fun e h=>by cases h);have c1:=aY1 (X:=X) hi ht hf bK hp;have c2:=zI (X:=X) (fl:=fl) (vs:=bV ints tables) (ps:=aP 112 params) 2 (nm 98 0);exact wr Y<|w7<|wl Y c0 Y<|wg 6 Y<|wl Y c1 Y<|wl Y c2 Y<|wt Y Y
 |flag k h=>
  have c0:=oO (X:=X) (fl:=fl) (vs:=bV ints tables) (ps:=aP 112 params) (l:=[]) (t:=0) NS (fun e h=>by cases h);have c1:=aY0 (X:=X) hi ht hf bK hp h;have c2:=zI (X:=X) (fl:=fl) (vs:=bV ints tables) (ps:=aP 112 params) 2 (nm 102 k);exact wr Y<|w7<|wl Y c0 Y<|wg 6 Y<|wl Y c1 Y<|wl Y c2 Y<|wt Y Y
 | @has d h e he=>
  have c0:=oO (X:=X) (fl:=fl) (vs:=bV ints tables) (ps:=aP 112 params) (l:=[e]) (t:=1) NS (fun a h=>by rw[xy] at h;subst h;exact C1 hi ht hf bK hp he);have c1:=NI (X:=X) hi ht hf bK hp h;have c2:=zI (X:=X) (fl:=fl) (vs:=bV ints tables) (ps:=aP 112 params) 2 (nm 116 0);exact wr Y<|w7<|wl Y c0 Y<|wg 16 Y<|wl Y c1 Y<|wl Y c2 Y<|wt Y Y
 | @not d e he ih=>
  have c0:=oO (X:=X) (fl:=fl) (vs:=bV ints tables) (ps:=aP 112 params) (l:=[e]) (t:=2) NS (fun a h=>by rw[xy] at h;subst h;exact ih);exact wr Y<|w7<|wl Y c0 Y<|wg 13 Y<|wt Y Y
 | @B1 d op h1 h2 a b ha hb kw dO=>
  have c0:=oO (X:=X) (fl:=fl) (vs:=bV ints tables) (ps:=aP 112 params) (l:=[a,b]) (t:=2) NS (fun a h=>by
   rcases xG.1 h with rfl|h
   ·exact kw
   ·rw[xy] at h;subst h;exact dO)
  have:op=22\/op=23:=MK
  rcases this with rfl|rfl
  ·exact wr Y<|w7<|wl Y c0 Y<|wg 14 Y<|wt Y Y
  ·exact wr Y<|w7<|wl Y c0 Y<|wg 15 Y<|wt Y Y
 | @cmp d op h1 h2 a b ha hb=>
  have c0:=oO (X:=X) (fl:=fl) (vs:=bV ints tables) (ps:=aP 112 params) (l:=[a,b]) (t:=1) NS (fun a h=>by
   rcases xG.1 h with rfl|h
   ·exact C1 hi ht hf bK hp ha
   ·rw[xy] at h;subst h;exact C1 hi ht hf bK hp hb)
  have:op=16\/op=17\/op=18\/op=19\/op=20\/op=21:=MK
  rcases this with rfl|rfl|rfl|rfl|rfl|rfl
  ·exact wr Y<|w7<|wl Y c0 Y<|wg 11 Y<|wt Y Y
  ·exact wr Y<|w7<|wl Y c0 Y<|wg 12 Y<|wt Y Y
  ·exact wr Y<|w7<|wl Y c0 Y<|wg 17 Y<|wt Y Y
  ·exact wr Y<|w7<|wl Y c0 Y<|wg 18 Y<|wt Y Y
  ·exact wr Y<|w7<|wl Y c0 Y<|wg 19 Y<|wt Y Y
  ·exact wr Y<|w7<|wl Y c0 Y<|wg 20 Y<|wt Y Y
end
end
end Go.Proofs.YthicpeihkkokmaaGreatDoor
namespace Go.Fl
open Go.Ex
theorem gU.fg{ar:Dw}{f:dj}(h:gU ar f):Go.Proofs.YthicpeihkkokmaaGreatDoor.D3 f.flags f.flags.length:=⟨rfl,h.flags.2⟩
theorem CA{i j:Nat}(hi:i<100)(hj:j<100)(h:[(97+i).toUInt8]=[(97+j).toUInt8]):i=j:=by
 simp only [List.cons.injEq,and_true] at h;have e:=congrArg UInt8.toNat h;simp at e;omega
theorem gU.find{ar:Dw}{f:dj}(h:gU ar f){i:Nat}(hi:i<ar.length):∃c,f.comps[i]? =some c/\yw f.comps [(97+i).toUInt8]=some c:=by
 have hn:=h.n;have cb:i<f.comps.length:=MK
 refine⟨f.comps[i],xc cb,?_⟩;unfold yw;cases hc:f.comps.find? (fun v=>v.name==[(97+i).toUInt8]) with
 |none=>
  have:=List.find?_eq_none.1 hc f.comps[i] (List.getElem_mem cb);rw[(h.comps i _ (xc cb)).name] at this;simp at this
 |some c=>
  have h1:=List.find?_some hc;obtain⟨j,hj⟩:=qf (List.mem_of_find?_eq_some hc);have fH:=iB hj;rw[(h.comps j c hj).name] at h1;have h1:[(97+j).toUInt8]=[(97+i).toUInt8]:=by simpa using h1
  obtain rfl:=CA MK MK h1;rw[xc cb] at hj;exact hj.symm
theorem iV.pJ{nf i:Nat}{ar:Dw}{c:Cm}{al:Es}(hc:iV nf ar i c)(aR:ar[i]? =some al)(dK:al.length<=3){k n:Nat}(hk:al[k]? =some n):∃h,pJ c.aS (nm 104 k)=some h/\h.params.length=n:=by
 obtain⟨ints,tables,MF,_,_,_,yO,_,_,_,⟨l,hl,lm⟩,hv⟩:=hc.rest;rw[aR] at yO;cases yO;have Eo:=iB hk;unfold Fl.pJ;cases hf:c.aS.flatten.find? (fun v=>v.name==nm 104 k) with
 |none=>
  have gY:k<l.length:=MK
  have:=List.find?_eq_none.1 hf l[k] (List.mem_flatten.2 ⟨l,hl,List.getElem_mem gY⟩);rw[((hv l hl).2.2 k _ (xc gY)).name] at this;simp at this
 |some h=>
  have h1:=List.find?_some hf;obtain⟨l',fG,hm⟩:=List.mem_flatten.1 (List.mem_of_find?_eq_some hf);obtain⟨j,hj⟩:=qf hm;have fH:=iB hj;have aL:=hv l' fG;have ho:=aL.2.2 j h hj;rw[ho.name] at h1;have h1:nm 104 j=nm 104 k:=by simpa using h1
  obtain rfl:=(qW MK MK MK MK h1).2;obtain⟨n',fL,hp,_⟩:=ho.lW;rw[hk] at fL;cases fL;exact⟨h,rfl,by rw[hp];simp[aP]⟩
end Go.Fl
namespace Go.Proofs.YthicpeihkkokmaaGreatDoor
open Go.Ex Go.RowKit Go.Fl
variable{c:Cm}{l:List Fl.Ex}
section
variable{X:Bv}
abbrev uP(fl:List Fg)(vs:List Vr)(ps:L5)(c:Cm)(pl:aq)(n:Nat)(f:dj)(w:aq):Di:=
 [.sl (fl.map Fg.d),.sl (vs.map Vr.s),.sl (strs ps),.str c.name,.sl (c.vars.map Vr.s),.sl (ca c.aS),.str pl,iD n,.str f.name,.sl (f.flags.map Fg.d),.sl (f.links.map Lk.d),.sl (f.comps.map Cm.s),.str w,.str [],.str [],iD 0]
variable{fl:List Fg}{vs:List Vr}{ps:L5}{pl:aq}{n:Nat}{f:dj}{w:aq}
theorem Nf{s:aq}{v:Vr}(h:Rn F X 59 0 (m9 fl vs ps++[.str s]) (·=CT (some v))):Rn F X 65 0 (uP fl vs ps c pl n f w++[.str s]) (·=bD v.type::uP fl vs ps c pl n f w):=by
 have h:Rn F X 59 0 (m9 fl vs ps++[.str s]) (·=[.str v.name,bD v.type,iD v.init,.bool true]):=h;exact wr Y<|wl Y h rfl<|wt Y Y
theorem PP{t:Nat}(hl:l.length<=5)(h:∀e∈l,Rn F X 63 0 (m9 fl vs ps++Ex.s e) (·=[bD t,.str [],iD 0])):Rn F X 66 0 (uP fl vs ps c pl n f w++[bD t,.sl (Ex.ss l)]) (·=uP fl vs ps c pl n f w):=by
 have loop:∀(aa V:List Fl.Ex),l=V++aa->Rn F X 66 1 ([bD t,.sl (Ex.ss l),jD l.length,jD V.length]++uP fl vs ps c pl n f w) (·=uP fl vs ps c pl n f w):=by
  intro aa
  induction aa with
  |nil=>
   intro V hp;rw[xj] at hp;subst hp;exact wr Y<|lR<|wn Y af<|wt Y Y
  |cons a aa ih=>
   intro V hp;have aE:=bC hp;have ao:(Ex.ss l)[V.length]? =some (Ex.s a):=by rw[hp];exact qe _ _ _
   have ha:=h a (by rw[hp];simp);have next:=ih (V++[a]) (by rw[hp,bA]);rw[xa] at next;obtain⟨o1,n1,i1,a1⟩:=a;exact wr Y<|lR<|wy Y af<|wo Y (ax ao Y)<|wg 1 Y<|vY<|wl Y ha rfl<|wl Y (Nn f w []) rfl<|Wp.dt Y ay rfl<|wl Y (xP f w [] 10) rfl<|wo Y oA<|Hs<|wj next
 exact wr Y<|wo Y (au (gf _))<|wj (loop l [] rfl)
theorem Ws{x:Cm}{s:aq}{fst:Nat}{h:Hn}(hx:x.aS.length<=1000/\∀v∈x.aS,v.length<=1000)(hh:pJ x.aS s=some h)(jf:h.params.length<=5)(aE:l.length=fst+h.params.length)(hl:l.length<=5)(ha:∀e∈l,Rn F X 63 0 (m9 fl vs ps++Ex.s e) (·=[bD 1,.str [],iD 0])):
 Rn F X 67 0 (uP fl vs ps c pl n f w++[.str x.name,.sl (x.vars.map Vr.s),.sl (ca x.aS),.str s,.sl (Ex.ss l),iD fst]) (·=uP fl vs ps c pl n f w):=by
 have c1:=M4 (X:=X) hx.1 hx.2 s;rw[hh] at c1;have c1:Rn F X 48 0 [.sl (ca x.aS),.str s] (·=[.str h.name,.sl (strs h.params),.sl (St.ss h.body),.bool true]):=c1;have c2:=PP (X:=X) (c:=c) (pl:=pl) (n:=n) (f:=f) (w:=w) hl ha;have hss:=gf l;have fW:(strs h.params).length=h.params.length:=xm _;refine wr Y<|wl Y c1 Y<|wl Y (xP f w _ _) rfl<|wo Y (au (gf _))<|kq<|wo Y (eO MK MK)<|wo Y (au fW)<|wy Y ay<|wl Y (xP f w _ _) rfl<|wl Y c2 Y ?_;dsimp only [ew,Ex.r,St.r,c_,n_,kK,kJ,kI,kH,kG];exact wt Y Y
end
structure wS (X:Bv):Prop where
 K6:∀n,n<=12->∃s:aq,s.length<=3/\Rn F X 111 0 [iD n] (·=[.str s])
structure At (ar:Dw) (f:dj) (own:Nat) (c:Cm) (ints tables params:Nat) (al:Es):Prop where
 fl:gU ar f
 lK:f.comps[own]? =some c
 aR:ar[own]? =some al
 vars:c.vars=bV ints tables
 i:ints<=3
 t:tables<=1
 p:params<=2
section
variable{X:Bv}{ar:Dw}{f:dj}{own:Nat}{ints tables params n:Nat}{al:Es}{pl w:aq}
theorem iV.small{nf i:Nat}{ar:Dw}(cP:∀l∈ar,1<=l.length/\l.length<=3/\∀n∈l,n<=2)(hc:iV nf ar i c):c.aS.length<=1000/\∀v∈c.aS,v.length<=1000:=by
 obtain⟨ints,tables,al,_,_,_,aR,_,_,h2,_,hv⟩:=hc.rest;have:=(cP al (xu aR)).2.1;exact⟨MK,fun v h=>by have:=(hv v h).2.1;omega⟩
abbrev m7(f:dj)(ints tables params:Nat)(c:Cm)(pl:aq)(n:Nat)(w:aq):Di:=uP f.flags (bV ints tables) (aP 112 params) c pl n f w
theorem an8(ha:At ar f own c ints tables params al){B:JH->Prop}{s:St}(hs:lO ⟨⟨ints,tables,f.flags.length,params⟩,ar,own⟩ B s):Rn F X 68 0 (m7 f ints tables params c pl n w++St.s s) (·=m7 f ints tables params c pl n w):=by
 have hi:=ha.i;have ht:=ha.t;have hp:=ha.p;have hf:D3 f.flags f.flags.length:=ha.fl.fg;have bK:=ha.fl.flags.1;have cP:=ha.fl.ji;have u:=fun e m=>xP (X:=X) f w m e
 have A1:∀l:List Fl.Ex,l.length<=5->(∀e∈l,fD ⟨ints,tables,f.flags.length,params⟩ 3 e)->Rn F X 66 0 (m7 f ints tables params c pl n w++[bD 1,.sl (Ex.ss l)]) (·=m7 f ints tables params c pl n w):=fun l h1 h2=>PP h1 (fun e he=>C1 hi ht hf bK hp (h2 e he))
 have A2:∀{e:Fl.Ex},jS ⟨ints,tables,f.flags.length,params⟩ 5 e->Rn F X 66 0 (m7 f ints tables params c pl n w++[bD 2,.sl (Ex.ss [e])]) (·=m7 f ints tables params c pl n w):=fun he=>PP NS (fun e h=>by rw[xy] at h;subst h;exact bh5 hi ht hf bK hp he)
 have V1:∀k,k<ints->Rn F X 65 0 (m7 f ints tables params c pl n w++[.str (nm 120 k)]) (·=bD 1::m7 f ints tables params c pl n w):=fun k hk=>Nf (v:=⟨nm 120 k,1,k⟩) (by have:=bh0 (X:=X) hi ht hf bK hp hk;rw[Pz hi ht hk] at this;exact this)
 have V2:Rn F X 65 0 (m7 f ints tables params c pl n w++[.str (nm 98 0)]) (·=bD 2::m7 f ints tables params c pl n w):=Nf (v:=⟨nm 98 0,2,0⟩) (by have:=bh1 (X:=X) hi ht hf bK hp;rw[PB hi ht] at this;exact this);have V3:0<tables->Rn F X 65 0 (m7 f ints tables params c pl n w++[.str (nm 116 0)]) (·=bD 3::m7 f ints tables params c pl n w):=fun h=>Nf (v:=⟨nm 116 0,3,0⟩) (by have:=YZ (X:=X) hi ht hf bK hp h;rw[PA hi ht h] at this;exact this)
 cases hs with
 | @mZ k h e he=>
  have c1:=V1 k h;have c2:=A1 [e] NS (tX he);refine wr Y<|jX<|wg 1 Y<|wl Y c1 Y<|wg 1 Y<|wl Y c2 Y ?_;dsimp only [ew,Ex.r,St.r,c_,n_,kK,kJ,kI,kH,kG,St.s];exact wt Y Y
 | @AN e he=>
  have c1:=V2;have c2:=A2 he;refine wr Y<|jX<|wg 1 Y<|wl Y c1 Y<|wg 2 Y<|wl Y c2 Y ?_;dsimp only [ew,Ex.r,St.r,c_,n_,kK,kJ,kI,kH,kG,St.s];exact wt Y Y
 | @put h a b ha hb=>
  have c1:=V3 h;have c2:=A1 [a,b] NS (KZ ha hb);refine wr Y<|jX<|wg 2 Y<|wl Y c1 Y<|wg 1 Y<|wl Y (u _ _) rfl<|wl Y c2 Y ?_;dsimp only [ew,Ex.r,St.r,c_,n_,kK,kJ,kI,kH,kG,St.s];exact wt Y Y
 | @del h a ha=>
  have c1:=V3 h;have c2:=A1 [a] NS (tX ha);refine wr Y<|jX<|wg 3 Y<|wl Y c1 Y<|wg 1 Y<|wl Y (u _ _) rfl<|wl Y c2 Y ?_;dsimp only [ew,Ex.r,St.r,c_,n_,kK,kJ,kI,kH,kG,St.s];exact wt Y Y
 | @cond e he th el h1 h2=>
  have c2:=A2 he;exact wr Y<|jX<|wg 5 Y<|wl Y c2 Y<|D4<|wt Y Y
 | @Du e he th h1=>
  have c2:=A2 he;exact wr Y<|jX<|wg 6 Y<|wl Y c2 Y<|D4<|wt Y Y
 | @send i h m l cb hh es he hn=>
  obtain⟨x,qE,hx⟩:=ha.fl.find (iB cb);have we:=ha.fl.comps i x qE;have dK:=(cP l (xu cb)).2.1;have j4:=(cP l (xu cb)).2.2 m (xu hh);obtain⟨hd,np,fJ⟩:=we.pJ cb dK hh;have c3:=It (X:=X) (l:=f.comps) (by have:=ha.fl.n;omega) [(97+i).toUInt8];rw[hx] at c3;have c3:Rn F X 49 0 [.sl (f.comps.map Cm.s),.str [(97+i).toUInt8]] (·=[.str x.name,.sl (x.vars.map Vr.s),.sl (ca x.aS),.bool true]):=c3;have c4:=Ws (X:=X) (fl:=f.flags) (vs:=bV ints tables) (ps:=aP 112 params) (c:=c) (pl:=pl) (n:=n) (f:=f) (w:=w) (fst:=0) (iV.small cP we) np MK MK MK (fun e h=>C1 hi ht hf bK hp (he e h));exact wr Y<|jX<|wg 7 Y<|wl Y c3 Y<|wl Y (u _ _) rfl<|wl Y c4 rfl<|Bm<|wt Y Y
 | @Bi h m l cb hh es he hn=>
  have we:=ha.fl.comps own c ha.lK;have dK:=(cP l (xu cb)).2.1;have j4:=(cP l (xu cb)).2.2 m (xu hh);obtain⟨hd,np,fJ⟩:=we.pJ cb dK hh;have c4:=Ws (X:=X) (fl:=f.flags) (vs:=bV ints tables) (ps:=aP 112 params) (c:=c) (pl:=pl) (n:=n) (f:=f) (w:=w) (fst:=1) (iV.small cP we) np MK MK MK (fun e h=>C1 hi ht hf bK hp (he e h));exact wr Y<|jX<|wg 8 Y<|wl Y c4 rfl<|D4<|wt Y Y
 | @store a b ha hb el h2=>
  have c2:=A1 [a,b] NS (KZ ha hb);exact wr Y<|jX<|wg 9 Y<|wl Y c2 Y<|D4<|wt Y Y
 | @Dg k h a ha el h2=>
  have c1:=V1 k h;have c2:=A1 [a] NS (tX ha);refine wr Y<|jX<|wg 4 Y<|wl Y c1 Y<|wg 1 Y<|wl Y (u _ _) rfl<|wl Y c2 Y ?_;dsimp only [ew,Ex.r,St.r,c_,n_,kK,kJ,kI,kH,kG,St.s];exact wt Y Y
 |stop=>
  exact wr Y<|jX<|wg 9 Y<|wt Y Y
theorem an0(hX:wS X)(ha:At ar f own c ints tables params al)(jf:pl.length<=100):∀(m:Nat) (l:JH) (d n:Nat) (w:aq),St.ns l<=m->jQ ⟨⟨ints,tables,f.flags.length,params⟩,ar,own⟩ d l->n+St.ns l<=12->Rn F X 69 0 (m7 f ints tables params c pl n w++[.sl (St.ss l)]) (fun o=>∃w',o=m7 f ints tables params c pl (n+St.ns l) w'):=by
 intro m
 induction m with
 |zero=>
  intro l d n w hl _ _;have:=mS l;obtain rfl:l=[]:=xE.1 MK;exact wr Y<|wo Y bc<|b_ Y<|wr Y<|wg 1 Y<|wt Y ⟨w,rfl⟩
 |succ m ih=>
  intro l d n w hl hb hn;have loop:∀(aa V:JH),l=V++aa->∀w,Rn F X 69 1 ([.sl (St.ss l),jD l.length,jD V.length]++m7 f ints tables params c pl (n+St.ns V) w) (fun o=>∃w',o=m7 f ints tables params c pl (n+St.ns l) w'):=by
   intro aa
   induction aa with
   |nil=>
    intro V hp w;rw[xj] at hp;subst hp;exact wr Y<|gI<|wn Y af<|wt Y ⟨w,rfl⟩
   |cons a aa cS=>
    intro V hp w;have aE:=bC hp;have lm:=mS l;have ao:(St.ss l)[V.length]? =some (St.s a):=by rw[hp];exact uY _ _ _
    have lj:St.ns l=St.ns V+(St.n a+St.ns aa):=by rw[hp,St.vk];rfl
    have next:=cS (V++[a]) (by rw[hp,bA]);obtain⟨d,rfl⟩:∃x,d=x+1:=by
     cases d with
     |zero=>rw[show l=[] from hb] at hp;simp at hp
     |succ x=>exact⟨x,rfl⟩
    have hs:=hb a (by rw[hp];simp);obtain⟨s1,dA,c1⟩:=hX.K6 (n+St.ns V) MK;have c3:=fun w=>an8 (X:=X) (pl:=pl) (n:=n+St.ns V+1) (w:=w) ha hs
    obtain⟨kind,name,cf,bf,th,el⟩:=a;obtain⟨n1,n2⟩:=hs.nest;simp only [St.n] at lj;have b1:∃d',jQ ⟨⟨ints,tables,f.flags.length,params⟩,ar,own⟩ d' th:=by
     rcases n1 with rfl|h
     ·exact⟨0,rfl⟩
     ·exact⟨_,h⟩
    have b2:∃d',jQ ⟨⟨ints,tables,f.flags.length,params⟩,ar,own⟩ d' el:=by
     rcases n2 with rfl|h
     ·exact⟨0,rfl⟩
     ·exact⟨_,h⟩
    obtain⟨d1,b1⟩:=b1;obtain⟨d2,b2⟩:=b2;have c4:=fun w=>ih th d1 (n+St.ns V+1) w MK b1 MK
    have c5:=fun w=>ih el d2 (n+St.ns V+1+St.ns th) w MK b2 MK
    have e1:n+St.ns (V++[St.mk kind name cf bf th el])=n+St.ns V+1+St.ns th+St.ns el:=by rw[St.vk];simp[St.ns,St.n];omega
    rw[e1,xa] at next;refine wr Y<|gI<|wy Y af<|wo Y (ax ao Y)<|wg 1 Y<|nQ<|wl Y c1 Y<|wo Y (dH MK)<|wl Y (GJ f _ _) rfl<|wo Y oA<|D4<|wl Y (c3 _) rfl<|LD<|wg 1 Y<|wx Y (c4 _) fun|_,⟨w4,rfl⟩=>⟨Y,?_⟩
    dsimp only [ew,Ex.r,St.r,c_,n_,kK,kJ,kI,kH,kG,St.s];refine wg 1 Y<|wx Y (c5 _) fun|_,⟨w5,rfl⟩=>⟨Y,?_⟩
    dsimp only [ew,Ex.r,St.r,c_,n_,kK,kJ,kI,kH,kG,St.s];exact wo Y oA<|b_ Y (next _)
  have:=loop l [] rfl w;exact wr Y<|wo Y (au (l9 _))<|wj this
end
end Go.Proofs.YthicpeihkkokmaaGreatDoor
namespace Go.Fl
open Go.Ex
theorem ar0{a b n:Nat}(h1:a/n=b/n)(h2:a%n=b%n):a=b:=by
 rw[<-Nat.div_add_mod a n,<-Nat.div_add_mod b n,h1,h2]
theorem gU.bk9{ar:Dw}{f:dj}(h:gU ar f):f.links.Pairwise (fun x y=> ¬(x.src=y.src/\x.dst=y.dst)):=by
 obtain⟨ks,dS,hp,hk⟩:=h.links;have hn:=h.n;have h9:ar.length*ar.length<=9:=Nat.mul_le_mul hn.2.2 hn.2.2;rw[dS,List.pairwise_map];refine hp.imp_of_mem (fun{p q} hp hq bm he=> ?_);have h1:=hk p hp;have h2:=hk q hq;have d1:p.1/ar.length<ar.length:=Nat.div_lt_of_lt_mul h1.1;have d2:q.1/ar.length<ar.length:=Nat.div_lt_of_lt_mul h2.1;have m1:p.1%ar.length<ar.length:=Nat.mod_lt _ hn.2.1;have m2:q.1%ar.length<ar.length:=Nat.mod_lt _ hn.2.1;have e1:=CA MK MK he.1;have e2:=CA MK MK he.2;have:=ar0 e1 e2;omega
theorem gU.aY6{ar:Dw}{f:dj}(h:gU ar f):∀x∈f.links,(∃i,i<ar.length/\x.src=[(97+i).toUInt8])/\∃i,i<ar.length/\x.dst=[(97+i).toUInt8]:=by
 obtain⟨ks,dS,hp,hk⟩:=h.links;have hn:=h.n;intro x hx;rw[dS] at hx;obtain⟨p,hp,rfl⟩:=xJ.1 hx;exact⟨⟨_,Nat.div_lt_of_lt_mul (hk p hp).1,rfl⟩,_,Nat.mod_lt _ hn.2.1,rfl⟩
theorem aB7{α:Type}{l V aa:List α}(h:l=V++aa):l.take V.length=V:=by rw[h];exact List.take_left
theorem aY7{i c k:Nat}:[(97+i).toUInt8]≠nm c k:=by
 intro h;have:=congrArg List.length h;simp[nm] at this
end Go.Fl
namespace Go.Proofs.YthicpeihkkokmaaGreatDoor
open Go.Ex Go.RowKit Go.Fl
variable{X:Bv}{ar:Dw}{c:Cm}{al:Es}{r:Di}{code:Ca}
section
variable{f:dj}{own:Nat}{ints tables params n:Nat}{pl w:aq}
theorem Cu{α:Type}{g:α->Di}{l V aa:List α}(h:l=V++aa):(l.map g).take V.length=V.map g:=by rw[<-List.map_take,aB7 h]
theorem aJ5(hI:wS X)(ha:At ar f own c ints tables params al){k:Nat}{h:Hn}{Ht:aq}(hv:Ht.length<=20)(mI:h.params=aP 112 params)(hb:jQ ⟨⟨ints,tables,f.flags.length,params⟩,ar,own⟩ 4 h.body)(iZ:h.name.length<=6)(hn:St.ns h.body<=12):
 Rn F X 56 0 (fP f w++[.str c.name,.sl (c.vars.map Vr.s),.sl (ca c.aS),.str h.name,.sl (strs h.params),.sl (St.ss h.body),.str Ht]) (fun o=>∃w',o=fP f w'):=by
 obtain⟨Av,bE9,De⟩:=h;simp only at mI hb iZ hn;subst mI;have hi:=ha.i;have ht:=ha.t;have hp:=ha.p;have hf:D3 f.flags f.flags.length:=ha.fl.fg;have bK:=ha.fl.flags.1;obtain⟨l1,l2,l3⟩:=yz hi ht hf bK hp;have sZ:c.name.length=1:=by rw[(ha.fl.comps own c ha.lK).name];rfl
 have bH:=ha.vars;have fW:(strs (aP 112 params)).length=params:=by simp[strs,aP]
 have eC:(aP 112 params).length=params:=by simp[aP]
 have c9:∀pl:aq,pl.length<=100->Rn F X 69 0 ([.sl (f.flags.map Fg.d),.sl (c.vars.map Vr.s),.sl (strs (aP 112 params)),.str c.name,.sl (c.vars.map Vr.s),.sl (ca c.aS),.str pl,iD 0]++fP f w++[.sl (St.ss De)]) (fun o=>∃w',o=m7 f ints tables params c pl (0+St.ns De) w'):=fun pl jf=>by
  have:=an0 hI ha jf 12 De 4 0 w MK hb MK;unfold m7 uP at this⊢;rw[bH] at this⊢;exact this
 have loop:∀(aa V:L5),aP 112 params=V++aa->Rn F X 56 1 ([.str Ht,.sl (strs (aP 112 params)),jD params,jD V.length]++fP f w++[.str c.name,.sl (c.vars.map Vr.s),.sl (ca c.aS),.str Av,.sl (St.ss De)]) (fun o=>∃w',o=fP f w'):=by
  intro aa
  induction aa with
  |nil=>
   intro V aI;rw[xj] at aI;have e:V.length=params:=by rw[<-aI];exact eC
   rw[e];refine wr Y<|gV<|wn Y af<|wo Y (dH Of)<|wo Y (dH Of)<|wo Y (dH Of)<|wo Y (dH Of)<|je<|wo Y (dH Of)<|wg 1 Y<|wx Y (c9 _ Of) fun|_,⟨w',rfl⟩=>⟨Y,?_⟩
   exact wt Y ⟨w',rfl⟩
  |cons a aa cS=>
   intro V aI;have aE:=bC aI;have ao:(strs (aP 112 params))[V.length]? =some [.str a]:=cz (f:=fun p:aq=>[D.str p]) aI;have mF:(strs (aP 112 params)).take V.length=strs V:=Cu (g:=fun p:aq=>[D.str p]) aI;have ea:a=nm 112 V.length:=by
    have h1:=vc aI;have bm:V.length<params:=MK
    rw[aP,xx,List.getElem?_range bm] at h1;cases h1;rfl
   have bx9:a∉V:=by
    intro hm;have DI:∀x∈V,∃j,j<V.length/\x=nm 112 j:=fun x hx=>by
     obtain⟨j,hj⟩:=qf hx;have fH:=iB hj;have h1:(aP 112 params)[j]? =some x:=by rw[aI,xw fH];exact hj
     rw[aP,xx,List.getElem?_range MK] at h1;cases h1;exact⟨j,fH,rfl⟩
    obtain⟨j,hj,e⟩:=DI a hm;rw[ea] at e;have:=(qW MK MK MK MK e).2;omega
   have c1:=wU (X:=X) l2 a;rw[ea,XG hi ht MK MK MK,<-ea,<-bH] at c1;have c1:Rn F X 47 0 [.sl (c.vars.map Vr.s),.str a] (·=[.str [],bD 0,iD 0,.bool false]):=c1;have c2:=FC (X:=X) l1 a;rw[OI hf (fun j hj=>by rw[ea];intro e;have:=qW MK MK MK MK e;omega)] at c2;have c3:=wW (X:=X) (l:=V) MK a;rw[f_ bx9] at c3;have u:=xP (X:=X) f w a 5;have next:=cS (V++[a]) (by rw[aI,bA]);rw[xa] at next;refine wr Y<|gV<|wy Y af<|wo Y (ax ao Y)<|wg 1 Y<|wl Y c1 Y<|wl Y c2 Y<|vZ ?_
   (refine e_ Y (mW (by rw[fW];omega)) rfl ?_;rw[mF])
   exact wl Y c3 Y<|wl Y u rfl<|wo Y oA<|kq<|wj next
 have:=loop (aP 112 params) [] rfl;exact wr Y<|wo Y (au fW)<|wj this
theorem aH5(hf:gU ar f):Rn F X 54 0 (fP f w) (fun o=>∃w',o=fP f w'):=by
 have HW:=hf.fg;have bK:=hf.flags.1;have loop:∀(aa V:List Fg),f.flags=V++aa->∀w,Rn F X 54 1 ([.sl (f.flags.map Fg.d),jD f.flags.length,jD V.length]++fP f w) (fun o=>∃w',o=fP f w'):=by
  intro aa
  induction aa with
  |nil=>
   intro V hp w;rw[xj] at hp;rw[hp];exact wr Y<|dF<|wn Y af<|wt Y ⟨w,rfl⟩
  |cons a aa ih=>
   intro V hp w;have aE:=bC hp;have ao:=cz (f:=Fg.d) hp;have mF:=Cu (g:=Fg.d) hp;have uE:=ch Fg.d f.flags;have ea:=HW.2 _ _ (vc hp);have DI:ud V a.name=false:=List.any_eq_false.2 (fun x hx=>by
    obtain⟨j,hj⟩:=qf hx;have fH:=iB hj;have h1:f.flags[j]? =some x:=by rw[hp,xw fH];exact hj
    rw[HW.2 j x h1,ea];intro e;have e:nm 102 j=nm 102 V.length:=by simpa using e
    have:=(qW MK MK MK MK e).2;omega)
   have c2:=FC (X:=X) (l:=V) MK a.name;rw[DI] at c2;have aR:a.name.length=2:=by rw[ea];rfl
   have next:=ih (V++[a]) (by rw[hp,bA]);rw[xa] at next;obtain⟨an,ab⟩:=a;simp only at aR c2;have u:=fun w e=>xP (X:=X) f w an e
   cases ab
   ·refine wr Y<|dF<|wy Y af<|wo Y (ax ao Y)<|wg 2 Y<|m6<|wo Y (dH Of)<|wl Y (GJ f _ _) rfl ?_
    (refine e_ Y (mW (by rw[uE];omega)) rfl ?_;rw[mF])
    exact wl Y c2 Y<|nQ<|wl Y (u _ _) rfl<|wo Y oA<|b_ Y (next _)
   ·refine wr Y<|dF<|wy Y af<|wo Y (ax ao Y)<|wg 1 Y<|m6<|wo Y (dH Of)<|wl Y (GJ f _ _) rfl ?_
    (refine e_ Y (mW (by rw[uE];omega)) rfl ?_;rw[mF])
    exact wl Y c2 Y<|nQ<|wl Y (u _ _) rfl<|wo Y oA<|b_ Y (next _)
 have:=loop f.flags [] rfl w;exact wr Y<|wo Y (au (ch _ _))<|wj this
theorem at5{l:List Lk}(hl:l.length<=1000){s d:aq}{t:Nat}(h:∀x∈l,¬(x.src=s/\x.dst=d)):Rn F X 45 0 [.sl (l.map Lk.d),.ptr [.str s,.str d,iD t] 0] (·=[.int .i64 (-1)]):=by
 have loop:∀(aa V:List Lk),l=V++aa->Rn F X 45 1 [.sl (l.map Lk.d),.ptr [.str s,.str d,iD t] 0,jD l.length,jD V.length] (·=[.int .i64 (-1)]):=by
  intro aa
  induction aa with
  |nil=>
   intro V hp;rw[xj] at hp;subst hp;exact wr Y<|wn Y af<|wt Y Y
  |cons a aa ih=>
   intro V hp;have aE:=bC hp;have ao:=cz (f:=Lk.d) hp;have ha:=h a (by rw[hp];simp);have next:=ih (V++[a]) (by rw[hp,bA]);rw[xa] at next;obtain⟨a1,a2,a3⟩:=a;simp only at ha;by_cases hs:a1=s
   ·have hd: ¬a2=d:=fun hd=>ha ⟨hs,hd⟩
    exact wr Y<|wy Y af<|wo Y (ax ao Y)<|wg 1 Y<|w8<|wg 2 Y<|Wp.dt Y jk hs<|wg 2 Y<|lS<|Wp.c8 Y jk hd<|wo Y oA<|wj next
   ·exact wr Y<|wy Y af<|wo Y (ax ao Y)<|wg 1 Y<|w8<|wg 2 Y<|Wp.c8 Y jk hs<|wo Y oA<|wj next
 exact wr Y<|wo Y (au (ch _ _))<|wj (loop l [] rfl)
theorem aF6(hf:gU ar f):Rn F X 55 0 (fP f w) (fun o=>∃w',o=fP f w'):=by
 have hn:=hf.n;have hl9:=hf.ok.links.1;have loop:∀(aa V:List Lk),f.links=V++aa->∀w,Rn F X 55 1 ([.sl (f.links.map Lk.d),jD f.links.length,jD V.length]++fP f w) (fun o=>∃w',o=fP f w'):=by
  intro aa
  induction aa with
  |nil=>
   intro V hp w;rw[xj] at hp;rw[hp];exact wr Y<|dF<|wn Y af<|wt Y ⟨w,rfl⟩
  |cons a aa ih=>
   intro V hp w;have aE:=bC hp;have ao:=cz (f:=Lk.d) hp;have mF:=Cu (g:=Lk.d) hp;have uE:=ch Lk.d f.links;have hpw:=hf.bk9;rw[hp] at hpw;have jh:∀x∈V,¬(x.src=a.src/\x.dst=a.dst):=fun x hx=>(List.pairwise_append.1 hpw).2.2 x hx a NS
   obtain⟨⟨i1,sW,e1⟩,i2,gw,e2⟩:=hf.aY6 a (by rw[hp];simp);obtain⟨x1,_,q1⟩:=hf.find sW;obtain⟨x2,_,q2⟩:=hf.find gw;have c1:=It (X:=X) (l:=f.comps) MK a.src;rw[e1,q1,<-e1] at c1;have c1:Rn F X 49 0 [.sl (f.comps.map Cm.s),.str a.src] (·=[.str x1.name,.sl (x1.vars.map Vr.s),.sl (ca x1.aS),.bool true]):=c1;have c2:=It (X:=X) (l:=f.comps) MK a.dst;rw[e2,q2,<-e2] at c2;have c2:Rn F X 49 0 [.sl (f.comps.map Cm.s),.str a.dst] (·=[.str x2.name,.sl (x2.vars.map Vr.s),.sl (ca x2.aS),.bool true]):=c2;have c3:=at5 (X:=X) (l:=V) (t:=a.y0) MK jh;have l1:a.src.length=1:=by rw[e1];rfl
   have l2:a.dst.length=1:=by rw[e2];rfl
   have next:=ih (V++[a]) (by rw[hp,bA]);rw[xa] at next;have u:=fun w n e=>xP (X:=X) f w n e
   obtain⟨a1,a2,a3⟩:=a;simp only at c1 c2 c3 l1 l2;have p2:∀w,Rn F X 55 2 ([jD V.length,.sl (f.links.map Lk.d),jD f.links.length,iD 2]++fP f w++[.str a1,.str a2,iD a3]) (fun o=>∃w',o=fP f w'):=by
    intro w;refine wr Y<|dW<|wg 1 Y ?_
    (refine e_ Y (mW (by rw[uE];omega)) rfl ?_;rw[mF])
    exact wg 2 Y<|wL Y c3 Y<|wg 1 Y<|wl Y (u _ _ _) rfl<|jq<|wo Y oA<|b_ Y (next _)
   have p1:∀w,Rn F X 55 2 ([jD V.length,.sl (f.links.map Lk.d),jD f.links.length,iD 1]++fP f w++[.str a1,.str a2,iD a3]) (fun o=>∃w',o=fP f w'):=by
    intro w;exact wr Y<|dW<|wg 3 Y<|wl Y c2 Y<|wl Y (u _ _ _) rfl<|wo Y oI<|pc<|b_ Y (p2 _)
   have p0:∀w,Rn F X 55 2 ([jD V.length,.sl (f.links.map Lk.d),jD f.links.length,iD 0]++fP f w++[.str a1,.str a2,iD a3]) (fun o=>∃w',o=fP f w'):=by
    intro w;exact wr Y<|dW<|wg 3 Y<|wl Y c1 Y<|wl Y (u _ _ _) rfl<|wo Y oI<|pc<|b_ Y (p1 _)
   exact wr Y<|dF<|wy Y af<|wo Y (ax ao Y)<|wg 1 Y<|dW<|wo Y (dH Of)<|wo Y (dH Of)<|wo Y (dH Of)<|wl Y (GJ f _ _) rfl<|jq<|b_ Y (p0 _)
 have:=loop f.links [] rfl w;exact wr Y<|wo Y (au (ch _ _))<|wj this
end
section
variable{f:dj}{own:Nat}{n:Nat}{w:aq}
theorem aB0{l V aa:Mm}(h:l=V++aa):(ca l).take V.length=ca V:=Cu (g:=fun l:List Hn=>[D.sl (l.map Hn.s)]) h
theorem aI6(hI:wS X)(hf:gU ar f){i:Nat}(hi:f.comps[i]? =some c):Rn F X 57 0 (fP f w++[jD i]) (fun o=>∃w',o=fP f w'):=by
 have hn:=hf.n;have HW:=hf.fg;have bK:=hf.flags.1;have nT:=iB hi;have Ey:=hf.comps i c hi;obtain⟨ints,tables,al,i1,i3,t1,aR,Kt,lX,dJ,hvl,bH⟩:=Ey.rest;have cP:=hf.ji;have ag0:=(cP al (xu aR)).2.1;have bB7:=(cP al (xu aR)).2.2;have cn:c.name=[(97+i).toUInt8]:=Ey.name;have cnl:c.name.length=1:=by rw[cn];rfl
 have ME:∀w w',Rn F X 53 0 (fP f w++[.str w']) (·= .bool true::fP f w'):=fun w w'=>GJ f w w'
 have u:=fun w n e=>xP (X:=X) f w n e
 have BH:f.flags.length<=1000:=MK
 have Jy:c.vars=bV ints tables:=Kt;have hvn:c.vars.length=ints+1+tables:=by rw[Jy];exact MP _ _
 have vNd:∀(V aa:List Vr) (v:Vr),c.vars=V++v::aa->ql V v.name=none/\ud f.flags v.name=false/\v.name.length=2:=by
  intro V aa v hp;have dw:(c.vars.map Vr.name).Nodup:=by
   rw[Jy];have a:ints=1\/ints=2\/ints=3:=MK
   have b:tables=0\/tables=1:=MK
   rcases a with rfl|rfl|rfl<;>rcases b with rfl|rfl<;>decide
  obtain⟨cc,kk,e,h'⟩:=UM (n:=ints) (t:=tables) (v:=v) (by rw[<-Jy,hp];simp);refine⟨List.find?_eq_none.2 (fun x hx=> ?_),OI HW (fun j hj=> ?_),by rw[e];rfl⟩
  ·rw[hp,List.map_append,List.map_cons,List.nodup_append] at dw;have:=dw.2.2 x.name (xJ.2 ⟨x,hx,rfl⟩) v.name NS;simpa using this
  ·rw[e];intro e2;have:=qW MK MK MK MK e2;omega
 have kW:∀(aa V:Mm),c.aS=V++aa->∀w,Rn F X 57 2 ([.sl (ca c.aS),jD c.aS.length,jD V.length]++fP f w++[.str c.name,.sl (c.vars.map Vr.s)]) (fun o=>∃w',o=fP f w'):=by
  intro aa
  induction aa with
  |nil=>
   intro V hp w;rw[xj] at hp;rw[hp];exact wr Y<|mw<|wn Y af<|wt Y ⟨w,rfl⟩
  |cons v aa ih=>
   intro V hp w;have aE:=bC hp;have ao:(ca c.aS)[V.length]? =some [.sl (v.map Hn.s)]:=cz (f:=fun l:List Hn=>[D.sl (l.map Hn.s)]) hp;have mF:=aB0 hp;have ac7:(ca c.aS).length=c.aS.length:=xm _;have hv:=bH v (by rw[hp];simp);have next:=ih (V++[v]) (by rw[hp,bA]);rw[xa] at next;obtain⟨s1,dA,Ly⟩:=hI.K6 (V.length+1) MK;have mg:∀(dV bq:List Hn),v=bq++dV->∀w,Rn F X 57 3 ([jD V.length,.sl (ca c.aS),jD c.aS.length,.sl (v.map Hn.s),jD v.length,jD bq.length]++fP f w++[.str c.name,.sl (c.vars.map Vr.s)]) (fun o=>∃w',o=fP f w'):=by
    intro dV
    induction dV with
    |nil=>
     intro bq bF w;rw[xj] at bF;subst bF;exact wr Y<|oe<|wn Y af<|wo Y oA<|b_ Y (next _)
    |cons h dV mB=>
     intro bq bF w;have vz:=bC bF;have gQ:=cz (f:=Hn.s) bF;have ac9:=Cu (g:=Hn.s) bF;have ae8:=ch Hn.s v;have fA:=mB (bq++[h]) (by rw[bF,bA]);rw[xa] at fA;have ho:=hv.2.2 bq.length h (vc bF);obtain⟨m,hm,mI,hb⟩:=ho.lW;have j4:=bB7 m (xu hm);have HM:=iB hm;have lj:h.name.length=2:=by rw[ho.name];rfl
     have named:∀l∈c.aS,∀x∈l,∀k,x.name=nm 104 k->k<3->∃j,l[j]? =some x/\j=k:=by
      intro l hl x hx k hxk hk;obtain⟨j,hj⟩:=qf hx;have fH:=iB hj;have h2:=bH l hl;have h3:=(h2.2.2 j x hj).name;rw[hxk] at h3;exact⟨j,hj,(qW MK MK MK MK h3).2.symm⟩
     have n1:pJ [bq] h.name=none:=List.find?_eq_none.2 (fun x hx=>by
      have hx:x∈bq:=by simpa using hx
      intro e;have e:x.name=h.name:=by simpa using e
      obtain⟨j,hj⟩:=qf hx;have fH:=iB hj;have h1:v[j]? =some x:=by rw[bF,xw fH];exact hj
      have h3:=(hv.2.2 j x h1).name;rw[e,ho.name] at h3;have:=(qW MK MK MK MK h3).2;omega)
     have c1:=M4 (X:=X) (l:=[bq]) NS (fun x hx=>by rw[xy] at hx;subst hx;omega) h.name;rw[n1] at c1;have c1:Rn F X 48 0 [.sl [[.sl (bq.map Hn.s)]],.str h.name] (·=[.str [],.sl [],.sl [],.bool false]):=c1;have c2:=M4 (X:=X) (l:=V) MK (fun x hx=>by have:=(bH x (by rw[hp];simp[hx])).2.1;omega) h.name;have cB:=fun w (Ht:aq) (bw0:Ht.length<=20)=>aJ5 (X:=X) (w:=w) (k:=0) hI (⟨hf,hi,aR,Jy,i3,t1,j4⟩:At ar f i c ints tables m al) bw0 mI hb MK ho.n
     have jf:h.params.length=m:=by rw[mI];simp[aP]
     have fW:(strs h.params).length=m:=by rw[<-jf];exact xm _
     cases hq:pJ V h.name with
     |none=>
      rw[hq] at c2;have c2:Rn F X 48 0 [.sl (ca V),.str h.name] (·=[.str [],.sl [],.sl [],.bool false]):=c2;obtain⟨h1,h2,h3⟩:=h;simp only at lj c1 c2 cB jf fW;refine wr Y<|oe<|wy Y af<|wo Y (ax gQ rfl)<|wg 1 Y<|lR<|wo Y (dH Of)<|wo Y (dH Of)<|wo Y (dH Of)<|wo Y (dH Of)<|vZ<|wo Y oA<|wl Y Ly rfl<|wo Y (dH Of)<|wl Y (ME _ _) rfl<|kq ?_
      (refine e_ Y (mW (by rw[ae8];omega)) rfl ?_;rw[ac9])
      refine wg 2 Y<|wL Y c1 Y<|wl Y (u _ _ _) rfl<|Bm ?_
      (refine e_ Y (mW (by rw[ac7];omega)) rfl ?_;rw[mF])
      refine wl Y c2 Y<|wl Y (u _ _ _) rfl<|wo Y oA ?_;dsimp only [ew,Ex.r,St.r,c_,n_,kK,kJ,kI,kH,kG,Hn.s];refine wl Y Ly rfl<|wo Y (dH Of)<|wg 1 Y<|wx Y (cB _ _ Of) fun|_,⟨w2,rfl⟩=>⟨Y,?_⟩
      dsimp only [ew,Ex.r,St.r,c_,n_,kK,kJ,kI,kH,kG,Hn.s];exact wo Y oA<|b_ Y (fA _)
     |some b=>
      rw[hq] at c2;have c2:Rn F X 48 0 [.sl (ca V),.str h.name] (·=[.str b.name,.sl (strs b.params),.sl (St.ss b.body),.bool true]):=c2;have ze:b.name=h.name:=by simpa using List.find?_some hq
      have hbp:b.params.length=m:=by
       obtain⟨l,hl,hx⟩:=List.mem_flatten.1 (List.mem_of_find?_eq_some hq);have Tq:l∈c.aS:=by rw[hp];simp[hl]
       obtain⟨j,hj,rfl⟩:=named l Tq b hx _ (by rw[ze];exact ho.name) MK;obtain⟨m',wz,bx0,_⟩:=((bH l Tq).2.2 _ b hj).lW;rw[hm] at wz;cases wz;rw[bx0];simp[aP]
      have hbs:(strs b.params).length=m:=by rw[<-hbp];exact xm _
      obtain⟨h1,h2,h3⟩:=h;simp only at lj c1 c2 cB jf fW;refine wr Y<|oe<|wy Y af<|wo Y (ax gQ rfl)<|wg 1 Y<|lR<|wo Y (dH Of)<|wo Y (dH Of)<|wo Y (dH Of)<|wo Y (dH Of)<|vZ<|wo Y oA<|wl Y Ly rfl<|wo Y (dH Of)<|wl Y (ME _ _) rfl<|kq ?_
      (refine e_ Y (mW (by rw[ae8];omega)) rfl ?_;rw[ac9])
      refine wg 2 Y<|wL Y c1 Y<|wl Y (u _ _ _) rfl<|Bm ?_
      (refine e_ Y (mW (by rw[ac7];omega)) rfl ?_;rw[mF])
      refine wl Y c2 Y<|wo Y (au hbs)<|wo Y (au fW) ?_;dsimp only [ew,Ex.r,St.r,c_,n_,kK,kJ,kI,kH,kG,Hn.s];refine Wp.dt Y ay rfl<|wl Y (u _ _ _) rfl<|wo Y oA<|wl Y Ly rfl<|wo Y (dH Of) ?_;dsimp only [ew,Ex.r,St.r,c_,n_,kK,kJ,kI,kH,kG,Hn.s];refine wg 1 Y<|wx Y (cB _ _ Of) fun|_,⟨w2,rfl⟩=>⟨Y,?_⟩
      dsimp only [ew,Ex.r,St.r,c_,n_,kK,kJ,kI,kH,kG,Hn.s];exact wo Y oA<|b_ Y (fA _)
   exact wr Y<|mw<|wy Y af<|wo Y (ax ao Y)<|wg 1 Y<|dW<|wo Y (au (ch _ _))<|b_ Y (mg v [] rfl _)
 have Ge:∀(aa V:List Vr),c.vars=V++aa->∀w,Rn F X 57 1 ([.sl (c.vars.map Vr.s),jD c.vars.length,jD V.length]++fP f w++[.str c.name,.sl (ca c.aS)]) (fun o=>∃w',o=fP f w'):=by
  intro aa
  induction aa with
  |nil=>
   intro V hp w;rw[xj] at hp;have hp':V.length=c.vars.length:=by rw[hp]
   exact wr Y<|mw<|wn Y af<|wo Y (au (xm _))<|b_ Y (kW c.aS [] rfl _)
  |cons v aa ih=>
   intro V hp w;have aE:=bC hp;have ao:=cz (f:=Vr.s) hp;have mF:=Cu (g:=Vr.s) hp;have uE:=ch Vr.s c.vars;obtain⟨q1,q2,q3⟩:=vNd V aa v hp;have c1:=wU (X:=X) (l:=V) MK v.name;rw[q1] at c1;have c1:Rn F X 47 0 [.sl (V.map Vr.s),.str v.name] (·=[.str [],bD 0,iD 0,.bool false]):=c1;have c2:=FC (X:=X) BH v.name;rw[q2] at c2;have next:=ih (V++[v]) (by rw[hp,bA]);rw[xa] at next;obtain⟨v1,v2,v3⟩:=v;simp only at c1 c2 q3;refine wr Y<|mw<|wy Y af<|wo Y (ax ao Y)<|wg 1 Y<|gV<|wo Y (dH Of)<|wo Y (dH Of)<|wo Y (dH Of)<|wl Y (ME _ _) rfl<|LJ ?_
   (refine e_ Y (mW (by rw[uE];omega)) rfl ?_;rw[mF])
   refine wl Y c1 Y<|wl Y c2 Y<|wl Y (u _ _ _) rfl ?_;dsimp only [ew,Ex.r,St.r,c_,n_,kK,kJ,kI,kH,kG,Vr.s];exact wo Y oA<|b_ Y (next _)
 have ao:(f.comps.map Cm.s)[i]? =some (Cm.s c):=by rw[xx,hi];rfl
 have uE:=ch Cm.s f.comps;have mF:(f.comps.map Cm.s).take i=(f.comps.take i).map Cm.s:=by rw[List.map_take]
 have c1:=It (X:=X) (l:=f.comps.take i) (by rw[xz];omega) c.name;have q1:yw (f.comps.take i) c.name=none:=List.find?_eq_none.2 (fun x hx=>by
  obtain⟨j,hj⟩:=qf hx;have fH:=iB hj;rw[xz] at fH;rw[List.getElem?_take_of_lt MK] at hj;rw[(hf.comps j x hj).name,cn];intro e;have e:[(97+j).toUInt8]=[(97+i).toUInt8]:=by simpa using e
  have:=CA MK MK e;omega)
 rw[q1] at c1;have c1:Rn F X 49 0 [.sl ((f.comps.take i).map Cm.s),.str c.name] (·=[.str [],.sl [],.sl [],.bool false]):=c1;have c2:=FC (X:=X) BH c.name;rw[OI HW (fun j hj e=>aY7 (by rw[cn] at e;exact e.symm))] at c2;have xl:=fun w=>Ge c.vars [] rfl w
 obtain⟨k1,k2,k3⟩:=c;simp only at c1 c2 cnl;refine wr Y<|wo Y (ax ao Y)<|wg 1 Y<|mw<|wo Y (dH Of)<|wl Y (ME _ _) rfl ?_
 (refine e_ Y (mW (by rw[uE];omega)) rfl ?_;rw[mF])
 exact wl Y c1 Y<|oa<|wl Y c2 Y<|wl Y (u _ _ _) rfl<|wo Y (au (ch _ _))<|b_ Y (xl _)
theorem am9(hX:mN X)(hI:wS X)(hf:gU ar f):Rn F X 58 0 f.s (·=[.str [],.str [],iD 0,iD 0]):=by
 have c0:=Oc hX hf.ok;have c1:=fun w=>aH5 (X:=X) (w:=w) hf
 have c2:=fun w=>aF6 (X:=X) (w:=w) hf
 have hn:=hf.n;have loop:∀(k i:Nat),i+k=f.comps.length->∀w,Rn F X 58 1 ([jD f.comps.length,jD i]++fP f w) (·=[.str [],.str [],iD 0,iD 0]):=by
  intro k
  induction k with
  |zero=>
   intro i hi w;exact wr Y<|nR<|wn Y af<|wt Y Y
  |succ k ih=>
   intro i hi w;have nT:i<f.comps.length:=MK
   have c3:=aI6 (X:=X) (w:=w) hI hf (xc nT);have next:=ih (i+1) MK;refine wr Y<|nR<|wy Y af<|wg 1 Y<|wx Y c3 fun|_,⟨w3,rfl⟩=>⟨Y,?_⟩
   exact D5<|wo Y oA<|b_ Y (next _)
 have lp:=fun w=>loop f.comps.length 0 MK w
 have r:=fun w n=>Nn (X:=X) f w n
 have c0:Rn F X 41 0 [.str f.name,.sl (f.flags.map Fg.d),.sl (f.links.map Lk.d),.sl (f.comps.map Cm.s)] (·=[iD 0]):=c0;show Rn F X 58 0 [.str f.name,.sl (f.flags.map Fg.d),.sl (f.links.map Lk.d),.sl (f.comps.map Cm.s)] _;refine wr Y<|wl Y c0 Y<|wl Y (r _ _) rfl<|wg 1 Y<|wx Y (c1 _) fun|_,⟨w1,rfl⟩=>⟨Y,?_⟩
 refine jX<|wg 1 Y<|wx Y (c2 _) fun|_,⟨w2,rfl⟩=>⟨Y,?_⟩
 exact pc<|wo Y (au (ch _ _))<|b_ Y (lp _)
end
section
theorem Fx(c k:Nat):(aP c k).length=k:=by simp[aP]
theorem ay0{nf own:Nat}(hc:iV nf ar own c)(aR:ar[own]? =some al)(dK:al.length<=3):Rn F X 70 0 [.str c.name,.sl (c.vars.map Vr.s),.sl (ca c.aS)] (·=[.sl (strs (aP 104 al.length))]):=by
 obtain⟨ints,tables,MF,i1,i3,t1,yO,Kt,lX,dJ,⟨l0,ni,by6⟩,bH⟩:=hc.rest;rw[aR] at yO;cases yO;have kW:∀(aa V:Mm),c.aS=V++aa->∀m,m<=al.length->(∀l∈V,l.length<=m)->Rn F X 70 1 [.sl (strs (aP 104 m)),.sl (ca c.aS),jD c.aS.length,jD V.length] (·=[.sl (strs (aP 104 al.length))]):=by
  intro aa
  induction aa with
  |nil=>
   intro V hp m hm aN;rw[xj] at hp;have hp':V.length=c.aS.length:=by rw[hp]
   have:al.length<=m:=by rw[<-by6];exact aN l0 (by rw[<-hp];exact ni)
   obtain rfl:m=al.length:=MK
   exact wr Y<|wn Y af<|wt Y Y
  |cons v aa ih=>
   intro V hp m hm aN;have aE:=bC hp;have ao:(ca c.aS)[V.length]? =some [.sl (v.map Hn.s)]:=cz (f:=fun l:List Hn=>[D.sl (l.map Hn.s)]) hp;have hv:=bH v (by rw[hp];simp);have next:=ih (V++[v]) (by rw[hp,bA]);rw[xa] at next;have mg:∀(dV bq:List Hn),v=bq++dV->∀m,m<=al.length->(∀l∈V,l.length<=m)->bq.length<=m->Rn F X 70 2 [.sl (strs (aP 104 m)),.sl (ca c.aS),jD c.aS.length,jD V.length,.sl (v.map Hn.s),jD v.length,jD bq.length] (·=[.sl (strs (aP 104 al.length))]):=by
    intro dV
    induction dV with
    |nil=>
     intro bq bF m hm aN h3;rw[xj] at bF;subst bF;have next:=next m hm (fun l hl=>by rcases xF.1 hl with hl|hl;exact aN l hl;rw[xy] at hl;subst hl;exact h3);exact wr Y<|wn Y af<|wo Y oA<|wj next
    |cons h dV mB=>
     intro bq bF m hm aN h3;have vz:=bC bF;have gQ:=cz (f:=Hn.s) bF;have ho:=(hv.2.2 bq.length h (vc bF)).name;have fA:=mB (bq++[h]) (by rw[bF,bA]);rw[xa] at fA;obtain⟨h1,h2,EF⟩:=h;simp only at ho;generalize hk:bq.length=k at*;subst ho;have Eo:k<al.length:=MK
     rcases Nat.lt_or_ge k m with bm|jv
     ·have nx:=fA m hm aN (by show k+1<=m;omega);have:(m=1/\k=0)\/(m=2/\k=0)\/(m=2/\k=1)\/(m=3/\k=0)\/(m=3/\k=1)\/(m=3/\k=2):=MK
      rcases this with⟨rfl,rfl⟩|⟨rfl,rfl⟩|⟨rfl,rfl⟩|⟨rfl,rfl⟩|⟨rfl,rfl⟩|⟨rfl,rfl⟩
      ·exact wr Y<|wy Y af<|wo Y (ax gQ rfl)<|wg 1 Y<|dF<|wo Y bc<|wg 4 Y<|wo Y oI<|wj nx
      ·exact wr Y<|wy Y af<|wo Y (ax gQ rfl)<|wg 1 Y<|dF<|wo Y bc<|wg 4 Y<|wo Y oI<|wj nx
      ·exact wr Y<|wy Y af<|wo Y (ax gQ rfl)<|wg 1 Y<|dF<|wo Y bc<|wg 8 Y<|wo Y oI<|dW<|wj nx
      ·exact wr Y<|wy Y af<|wo Y (ax gQ rfl)<|wg 1 Y<|dF<|wo Y bc<|wg 4 Y<|wo Y oI<|wj nx
      ·exact wr Y<|wy Y af<|wo Y (ax gQ rfl)<|wg 1 Y<|dF<|wo Y bc<|wg 8 Y<|wo Y oI<|dW<|wj nx
      ·exact wr Y<|wy Y af<|wo Y (ax gQ rfl)<|wg 1 Y<|dF<|wo Y bc<|wg 11 Y<|dW<|wg 1 Y<|wo Y oI<|wj nx
     ·obtain rfl:k=m:=MK
      have nx:=fA (k+1) MK (fun l hl=>xH (aN l hl) MK) (by show k+1<=k+1;omega);have:k=0\/k=1\/k=2:=MK
      rcases this with rfl|rfl|rfl
      ·exact wr Y<|wy Y af<|wo Y (ax gQ rfl)<|wg 1 Y<|dF<|wo Y bc<|wg 4 Y<|wo Y oI<|dW<|wj nx
      ·exact wr Y<|wy Y af<|wo Y (ax gQ rfl)<|wg 1 Y<|dF<|wo Y bc<|wg 8 Y<|dW<|wo Y oI<|wj nx
      ·exact wr Y<|wy Y af<|wo Y (ax gQ rfl)<|wg 1 Y<|dF<|wo Y bc<|wg 11 Y<|dW<|wg 1 Y<|wo Y oI<|wj nx
   exact wr Y<|wy Y af<|wo Y (ax ao Y)<|wg 1 Y<|w6<|wo Y (au (ch _ _))<|b_ Y (mg v [] rfl m hm aN NS)
 exact wr Y<|wo Y (au (xm _))<|b_ Y (kW c.aS [] rfl 0 MK (fun l h=>by cases h))
def rf(L:Nat)(r:Di):Prop:=∃(op:Nat) (a b n:Int),r=[bD op,.int .i64 a,.int .i64 b,.int .i64 n]/\op<=34/\(op=27\/op=28->0<=a/\a<=L)/\(op=32\/op=33->0<=b/\b<=L)/\0<=n/\n<=8
def gz(code:Ca):Prop:=∀r∈code,rf code.length r
theorem rf.mono{L L':Nat}(h:L<=L')(hr:rf L r):rf L' r:=by
 obtain⟨op,a,b,n,e,h1,h2,h3,h4,h5⟩:=hr;exact⟨op,a,b,n,e,h1,fun q=>⟨(h2 q).1,by have:=(h2 q).2;omega⟩,fun q=>⟨(h3 q).1,by have:=(h3 q).2;omega⟩,h4,h5⟩
theorem gz.snoc(h:gz code)(hr:rf code.length r):gz (code++[r]):=fun x hx=>by
 rw[xa];rcases xF.1 hx with hx|hx
 ·exact(h x hx).mono NS
 ·rw[xy] at hx;subst hx;exact hr.mono NS
theorem gz.Q5(h:gz code){i:Nat}{v:Int}(hi:code[i]? =some r)(h0:0<=v)(h1:v<=code.length):gz (code.set i (r.take 1++[.int .i64 v]++r.drop 2)):=fun x hx=>by
 rw[xt];rcases List.mem_or_eq_of_mem_set hx with hx|hx
 ·exact h x hx
 ·obtain⟨op,a,b,n,e,q1,q2,q3,q4⟩:=h r (xu hi);subst e;subst hx;exact⟨op,v,b,n,rfl,q1,fun _=>⟨h0,h1⟩,q3,q4⟩
theorem gz.ab1(h:gz code){i:Nat}{v:Int}(hi:code[i]? =some r)(h0:0<=v)(h1:v<=code.length):gz (code.set i (r.take 2++[.int .i64 v]++r.drop 3)):=fun x hx=>by
 rw[xt];rcases List.mem_or_eq_of_mem_set hx with hx|hx
 ·exact h x hx
 ·obtain⟨op,a,b,n,e,q1,q2,q3,q4⟩:=h r (xu hi);subst e;subst hx;exact⟨op,a,v,n,rfl,q1,q2,fun _=>⟨h0,h1⟩,q4⟩
theorem Ox(h:gz code){i:Nat}(hi:i<code.length){v:Int}:∃r,code[i]? =some r/\aF (.kj 1) [.sl code,jD i,.int .i64 v]=some (.sl (code.set i (r.take 1++[.int .i64 v]++r.drop 2))):=by
 obtain⟨op,a,b,n,e,_⟩:=h code[i] (List.getElem_mem hi);refine⟨code[i],xc hi,?_⟩;show(code[i]?).bind _=_;rw[xc hi,e];rfl
theorem Xa(h:gz code){i:Nat}(hi:i<code.length){v:Int}:∃r,code[i]? =some r/\aF (.kj 2) [.sl code,jD i,.int .i64 v]=some (.sl (code.set i (r.take 2++[.int .i64 v]++r.drop 3))):=by
 obtain⟨op,a,b,n,e,_⟩:=h code[i] (List.getElem_mem hi);refine⟨code[i],xc hi,?_⟩;show(code[i]?).bind _=_;rw[xc hi,e];rfl
structure Cp where
 f:dj
 hs:List (List aq)
 own:Nat
 vars:L5
 tables:L5
 flags:L5
 params:L5
abbrev hY(p:Cp)(code:Ca):Di:=[.str p.f.name,.sl (p.f.flags.map Fg.d),.sl (p.f.links.map Lk.d),.sl (p.f.comps.map Cm.s),.sl (p.hs.map fun l=>[.sl (strs l)]),jD p.own,.sl (strs p.vars),.sl (strs p.tables),.sl (strs p.flags),.sl (strs p.params),.sl code]
structure Cp.Ok (p:Cp):Prop where
 v:p.vars.length<=1000
 t:p.tables.length<=1000
 f:p.flags.length<=1000
 p:p.params.length<=1000
def pr(p:Cp)(code:Ca)(m:Nat)(o:Di):Prop:=∃fm,o=hY p fm/\gz fm/\code.length<=fm.length/\fm.length<=code.length+m
theorem bu6{L op:Nat}{a b n:Int}(h1:op<=34)(h2:op≠27/\op≠28/\op≠32/\op≠33)(h3:0<=n)(h4:n<=8):rf L [bD op,.int .i64 a,.int .i64 b,.int .i64 n]:=⟨op,a,b,n,rfl,h1,fun h=>MK,fun h=>MK,h3,h4⟩
end
end Go.Proofs.YthicpeihkkokmaaGreatDoor
