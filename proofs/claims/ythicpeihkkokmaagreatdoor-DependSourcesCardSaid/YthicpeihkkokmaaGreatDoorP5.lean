/- What these functions answer. -/
import Derived.Test.YthicpeihkkokmaaGreatDoorP4
set_option linter.unusedVariables false
set_option linter.unusedSimpArgs false
set_option maxHeartbeats 4000000
set_option maxRecDepth 100000
namespace Go.Proofs.YthicpeihkkokmaaGreatDoor
open Go.Ex Go.RowKit Go.Fl
variable{c k n t:Nat}{fl:List Fg}{vs:List Vr}{e:Fl.Ex}
section
variable{X:a0a}
theorem Dm{c':Nat}(h1:c<200)(h2:c'<200)(h3:k<200)(h4:n<=100)(h:c≠c'):nm c k∉aP c' n:=fun hm=>by
 obtain⟨j,hj,e⟩:=xJ.1 hm;have:=List.mem_range.1 hj;exact h (rS h2 h1 a0B h3 e).1.symm
theorem aa8(h:k<n):nm c k∈aP c n:=xJ.2 ⟨k,List.mem_range.2 h,rfl⟩
theorem QI(hn:n<=3)(ht:t<=1)(hk:k<n):qO (bW n t) (nm 120 k)=some ⟨nm 120 k,1,k⟩:=by
 have a:n=1\/n=2\/n=3:=a0B
 have b:t=0\/t=1:=a0B
 have c:k=0\/k=1\/k=2:=a0B
 rcases a with rfl|rfl|rfl<;>rcases b with rfl|rfl<;>rcases c with rfl|rfl|rfl<;>first|rfl|omega
theorem QK(hn:n<=3)(ht:t<=1):qO (bW n t) (nm 98 0)=some ⟨nm 98 0,2,0⟩:=by
 have a:n=0\/n=1\/n=2\/n=3:=a0B
 have b:t=0\/t=1:=a0B
 rcases a with rfl|rfl|rfl|rfl<;>rcases b with rfl|rfl<;>rfl
theorem QJ(hn:n<=3)(ht:t<=1)(h:0<t):qO (bW n t) (nm 116 0)=some ⟨nm 116 0,3,0⟩:=by
 have a:n=0\/n=1\/n=2\/n=3:=a0B
 obtain rfl:t=1:=a0B
 rcases a with rfl|rfl|rfl|rfl<;>rfl
theorem VS{v:Vr}(h:v∈bW n t):∃c k,v.name=nm c k/\(c=120/\k<n\/c=98/\k=0\/c=116/\k<t):=by
 rcases xF.1 h with h|h
 ·obtain⟨j,hj,rfl⟩:=xJ.1 h;exact⟨120,j,rfl,.inl ⟨rfl,List.mem_range.1 hj⟩⟩
 ·rcases xG.1 h with rfl|h
  ·exact⟨98,0,rfl,.inr (.inl ⟨rfl,rfl⟩)⟩
  ·obtain⟨j,hj,rfl⟩:=xJ.1 h;exact⟨116,j,rfl,.inr (.inr ⟨rfl,List.mem_range.1 hj⟩)⟩
theorem YO(hn:n<=3)(ht:t<=1)(hc:c<200)(hk:k<200)(h:c≠120/\c≠98/\c≠116):qO (bW n t) (nm c k)=none:=by
 refine List.find?_eq_none.2 (fun v hv=> ?_);obtain⟨c',k',e,h'⟩:=VS hv;rw[e];intro he;have he:nm c' k'=nm c k:=by simpa using he
 have:=rS a0B hc a0B hk he;omega
theorem NY(n t:Nat):(bW n t).length=n+1+t:=by simp[bW,sX];omega
def Fa(fl:List Fg)(n:Nat):Prop:=fl.length=n/\∀k x,fl[k]? =some x->x.name=nm 102 k
theorem aP8(h:Fa fl n)(hk:k<n):uZ fl (nm 102 k)=true:=by
 have fM:k<fl.length:=by rw[h.1];exact hk
 exact List.any_eq_true.2 ⟨fl[k],List.getElem_mem fM,by rw[h.2 k _ (xc fM)];simp⟩
theorem PX{s:aq}(h:Fa fl n)(hs:∀k,k<n->nm 102 k≠s):uZ fl s=false:=by
 refine List.any_eq_false.2 (fun x hx=> ?_);obtain⟨i,hi⟩:=qI hx;have:=iR hi;rw[h.2 i x hi];simpa using hs i (by rw[<-h.1];exact this)
abbrev nP(fl:List Fg)(vs:List Vr)(ps:a0s):a0d:=[.sl (fl.map Fg.d),.sl (vs.map Vr.s),.sl (strs ps)]
variable{ints tables flags params:Nat}
section
variable(hi:ints<=3)(ht:tables<=1)(hf:Fa fl flags)(bE:flags<=2)(hp:params<=2)
include hi ht hf bE hp
theorem zA:fl.length<=1000/\(bW ints tables).length<=1000/\(aP 112 params).length<=1000:=by
 have:=NY ints tables;have:=hf.1;have:(aP 112 params).length=params:=by simp[aP]
 omega
theorem bh7(hk:k<params):Rn F X 60 0 (nP fl (bW ints tables) (aP 112 params)++[.str (nm 112 k)]) (·=[bD 1,iD 0]):=by
 obtain⟨l1,l2,l3⟩:=zA hi ht hf bE hp;have c1:=yw (X:=X) l3 (nm 112 k);rw[u_ (aa8 hk)] at c1;exact wr Y<|wl Y c1 Y<|wt Y Y
theorem bh6(hk:k<ints):Rn F X 60 0 (nP fl (bW ints tables) (aP 112 params)++[.str (nm 120 k)]) (·=[bD 1,iD 0]):=by
 obtain⟨l1,l2,l3⟩:=zA hi ht hf bE hp;have c1:=yw (X:=X) l3 (nm 120 k);rw[f_ (Dm a0B a0B a0B a0B a0B)] at c1;have c2:=yt (X:=X) l2 (nm 120 k);rw[QI hi ht hk] at c2;exact wr Y<|wl Y c1 Y<|wl Y c2 Y<|w9<|wg 1 Y<|wt Y Y
theorem bh9:Rn F X 60 0 (nP fl (bW ints tables) (aP 112 params)++[.str (nm 98 0)]) (·=[bD 2,iD 0]):=by
 obtain⟨l1,l2,l3⟩:=zA hi ht hf bE hp;have c1:=yw (X:=X) l3 (nm 98 0);rw[f_ (Dm a0B a0B a0B a0B a0B)] at c1;have c2:=yt (X:=X) l2 (nm 98 0);rw[QK hi ht] at c2;exact wr Y<|wl Y c1 Y<|wl Y c2 Y<|w9<|wg 1 Y<|wt Y Y
theorem bh8(hk:k<flags):Rn F X 60 0 (nP fl (bW ints tables) (aP 112 params)++[.str (nm 102 k)]) (·=[bD 2,iD 0]):=by
 obtain⟨l1,l2,l3⟩:=zA hi ht hf bE hp;have c1:=yw (X:=X) l3 (nm 102 k);rw[f_ (Dm a0B a0B a0B a0B a0B)] at c1;have c2:=yt (X:=X) l2 (nm 102 k);rw[YO hi ht a0B a0B a0B] at c2;have c3:=GA (X:=X) l1 (nm 102 k);rw[aP8 hf hk] at c3;exact wr Y<|wl Y c1 Y<|wl Y c2 Y<|w9<|wl Y c3 Y<|wt Y Y
theorem bq9(hk:k<ints):Rn F X 59 0 (nP fl (bW ints tables) (aP 112 params)++[.str (nm 120 k)]) (·=D2 (qO (bW ints tables) (nm 120 k))):=by
 obtain⟨l1,l2,l3⟩:=zA hi ht hf bE hp;have c1:=yw (X:=X) l3 (nm 120 k);rw[f_ (Dm a0B a0B a0B a0B a0B)] at c1;have c2:=yt (X:=X) l2 (nm 120 k);rw[QI hi ht hk] at c2⊢;exact wr Y<|wl Y c1 Y<|wl Y c2 Y<|w9<|wt Y Y
theorem br0:Rn F X 59 0 (nP fl (bW ints tables) (aP 112 params)++[.str (nm 98 0)]) (·=D2 (qO (bW ints tables) (nm 98 0))):=by
 obtain⟨l1,l2,l3⟩:=zA hi ht hf bE hp;have c1:=yw (X:=X) l3 (nm 98 0);rw[f_ (Dm a0B a0B a0B a0B a0B)] at c1;have c2:=yt (X:=X) l2 (nm 98 0);rw[QK hi ht] at c2⊢;exact wr Y<|wl Y c1 Y<|wl Y c2 Y<|w9<|wt Y Y
theorem Z6(h:0<tables):Rn F X 59 0 (nP fl (bW ints tables) (aP 112 params)++[.str (nm 116 0)]) (·=D2 (qO (bW ints tables) (nm 116 0))):=by
 obtain⟨l1,l2,l3⟩:=zA hi ht hf bE hp;have c1:=yw (X:=X) l3 (nm 116 0);rw[f_ (Dm a0B a0B a0B a0B a0B)] at c1;have c2:=yt (X:=X) l2 (nm 116 0);rw[QJ hi ht h] at c2⊢;exact wr Y<|wl Y c1 Y<|wl Y c2 Y<|w9<|wt Y Y
theorem OT(h:0<tables):Rn F X 61 0 (nP fl (bW ints tables) (aP 112 params)++[.str (nm 116 0)]) (·=[iD 0]):=by
 have c2:=Z6 (X:=X) hi ht hf bE hp h;rw[QJ hi ht h] at c2;exact wr Y<|wl Y c2 Y<|w8<|wg 1 Y<|wt Y Y
omit hi ht hf bE hp in
theorem AI{ps:a0s}(t:Nat)(n:aq):Rn F X 62 0 (nP fl vs ps++[bD t,.str n,iD 0]) (·=[bD t,.str [],iD 0]):=by
 exact wr Y<|wg 1 Y<|wt Y Y
omit hi ht hf bE hp in
theorem pg{ps:a0s}{l:List Fl.Ex}(hl:l.length<=2)(h:∀e∈l,Rn F X 63 0 (nP fl vs ps++Ex.s e) (·=[bD t,.str [],iD 0])):Rn F X 64 0 (nP fl vs ps++[.sl (Ex.ss l)]) (·=[bD (if l=[] then 0 else t),.str [],iD 0]):=by
 have loop:∀(aa V:List Fl.Ex),l=V++aa->Rn F X 64 1 ([bD (if V=[] then 0 else t),.sl (Ex.ss l),jD l.length,jD V.length]++nP fl vs ps) (·=[bD (if l=[] then 0 else t),.str [],iD 0]):=by
  intro aa
  induction aa with
  |nil=>
   intro V hp;rw[xj] at hp;subst hp;exact wr Y<|w7<|wn Y ai<|wt Y Y
  |cons a aa ih=>
   intro V hp;have aD:=bG hp;have ao:(Ex.ss l)[V.length]? =some (Ex.s a):=by rw[hp];exact qF _ _ _
   have ha:=h a (by rw[hp];simp);have next:=ih (V++[a]) (by rw[hp,bw]);rw[xa,j_ a0C] at next;obtain⟨o1,n1,i1,a1⟩:=a;rcases V with _|⟨b,V⟩
   ·exact wr Y<|w7<|wy Y ai<|wo Y (aA ao Y)<|wg 1 Y<|mg<|wl Y ha rfl<|wg 2 Y<|Wp.dO Y ay rfl<|wo Y oA<|wj next
   ·rw[j_ a0C];exact wr Y<|w7<|wy Y ai<|wo Y (aA ao Y)<|wg 1 Y<|mg<|wl Y ha rfl<|wg 1 Y<|Wp.dF Y ay a0F<|Wp.dO Y ay rfl<|wo Y oA<|wj next
 exact wr Y<|wo Y (az (gF _))<|wj (loop l [] rfl)
theorem D8{d:Nat}(h:fS ⟨ints,tables,flags,params⟩ d e):Rn F X 63 0 (nP fl (bW ints tables) (aP 112 params)++Ex.s e) (·=[bD 1,.str [],iD 0]):=by
 induction h with
 |num n h=>
  have c0:=pg (X:=X) (fl:=fl) (vs:=bW ints tables) (ps:=aP 112 params) (l:=[]) (t:=0) a0C (fun e h=>by cases h);exact wr Y<|w7<|wl Y c0 Y<|wg 2 Y<|wt Y Y
 |var k h=>
  have c0:=pg (X:=X) (fl:=fl) (vs:=bW ints tables) (ps:=aP 112 params) (l:=[]) (t:=0) a0C (fun e h=>by cases h);have c1:=bh6 (X:=X) hi ht hf bE hp h;have c2:=AI (X:=X) (fl:=fl) (vs:=bW ints tables) (ps:=aP 112 params) 1 (nm 120 k);exact wr Y<|w7<|wl Y c0 Y<|wg 6 Y<|wl Y c1 Y<|wl Y c2 Y<|wt Y Y
 |mm k h=>
  have c0:=pg (X:=X) (fl:=fl) (vs:=bW ints tables) (ps:=aP 112 params) (l:=[]) (t:=0) a0C (fun e h=>by cases h);have c1:=bh7 (X:=X) hi ht hf bE hp h;have c2:=AI (X:=X) (fl:=fl) (vs:=bW ints tables) (ps:=aP 112 params) 1 (nm 112 k);exact wr Y<|w7<|wl Y c0 Y<|wg 6 Y<|wl Y c1 Y<|wl Y c2 Y<|wt Y Y
 |now=>
  have c0:=pg (X:=X) (fl:=fl) (vs:=bW ints tables) (ps:=aP 112 params) (l:=[]) (t:=0) a0C (fun e h=>by cases h);exact wr Y<|w7<|wl Y c0 Y<|wg 3 Y<|wt Y Y
 | @get d h e he ih=>
  have c0:=pg (X:=X) (fl:=fl) (vs:=bW ints tables) (ps:=aP 112 params) (l:=[e]) (t:=1) a0C (fun a h=>by rw[xy] at h;subst h;exact ih);have c1:=OT (X:=X) hi ht hf bE hp h;have c2:=AI (X:=X) (fl:=fl) (vs:=bW ints tables) (ps:=aP 112 params) 1 (nm 116 0);exact wr Y<|w7<|wl Y c0 Y<|wg 19 Y<|wl Y c1 Y<|wl Y c2 Y<|wt Y Y
 |size h=>
  have c0:=pg (X:=X) (fl:=fl) (vs:=bW ints tables) (ps:=aP 112 params) (l:=[]) (t:=0) a0C (fun e h=>by cases h);have c1:=OT (X:=X) hi ht hf bE hp h;have c2:=AI (X:=X) (fl:=fl) (vs:=bW ints tables) (ps:=aP 112 params) 1 (nm 116 0);exact wr Y<|w7<|wl Y c0 Y<|wg 7 Y<|wl Y c1 Y<|wl Y c2 Y<|wt Y Y
 | @neg d e he ih=>
  have c0:=pg (X:=X) (fl:=fl) (vs:=bW ints tables) (ps:=aP 112 params) (l:=[e]) (t:=1) a0C (fun a h=>by rw[xy] at h;subst h;exact ih);exact wr Y<|w7<|wl Y c0 Y<|wg 20 Y<|wt Y Y
 | @bin d op h1 h2 a b ha hb kI dT=>
  have c0:=pg (X:=X) (fl:=fl) (vs:=bW ints tables) (ps:=aP 112 params) (l:=[a,b]) (t:=1) a0C (fun a h=>by
   rcases xG.1 h with rfl|h
   ·exact kI
   ·rw[xy] at h;subst h;exact dT)
  have:op=11\/op=12\/op=13\/op=14\/op=15:=a0B
  rcases this with rfl|rfl|rfl|rfl|rfl
  ·exact wr Y<|w7<|wl Y c0 Y<|wg 20 Y<|wt Y Y
  ·exact wr Y<|w7<|wl Y c0 Y<|wg 20 Y<|wt Y Y
  ·exact wr Y<|w7<|wl Y c0 Y<|wg 20 Y<|wt Y Y
  ·exact wr Y<|w7<|wl Y c0 Y<|wg 20 Y<|wt Y Y
  ·exact wr Y<|w7<|wl Y c0 Y<|wg 20 Y<|wt Y Y
theorem br4{d:Nat}(h:ka ⟨ints,tables,flags,params⟩ d e):Rn F X 63 0 (nP fl (bW ints tables) (aP 112 params)++Ex.s e) (·=[bD 2,.str [],iD 0]):=by
 induction h with
 |lit op h1 h2=>
  have c0:=pg (X:=X) (fl:=fl) (vs:=bW ints tables) (ps:=aP 112 params) (l:=[]) (t:=0) a0C (fun e h=>by cases h);have:op=2\/op=3:=a0B
  rcases this with rfl|rfl
  ·exact wr Y<|w7<|wl Y c0 Y<|wg 4 Y<|wt Y Y
  ·exact wr Y<|w7<|wl Y c0 Y<|wg 5 Y<|wt Y Y
 |b0=>
  have c0:=pg (X:=X) (fl:=fl) (vs:=bW ints tables) (ps:=aP 112 params) (l:=[]) (t:=0) a0C (fun e h=>by cases h);have c1:=bh9 (X:=X) hi ht hf bE hp;have c2:=AI (X:=X) (fl:=fl) (vs:=bW ints tables) (ps:=aP 112 params) 2 (nm 98 0);exact wr Y<|w7<|wl Y c0 Y<|wg 6 Y<|wl Y c1 Y<|wl Y c2 Y<|wt Y Y
 |flag k h=>
  have c0:=pg (X:=X) (fl:=fl) (vs:=bW ints tables) (ps:=aP 112 params) (l:=[]) (t:=0) a0C (fun e h=>by cases h);have c1:=bh8 (X:=X) hi ht hf bE hp h;have c2:=AI (X:=X) (fl:=fl) (vs:=bW ints tables) (ps:=aP 112 params) 2 (nm 102 k);exact wr Y<|w7<|wl Y c0 Y<|wg 6 Y<|wl Y c1 Y<|wl Y c2 Y<|wt Y Y
 | @has d h e he=>
  have c0:=pg (X:=X) (fl:=fl) (vs:=bW ints tables) (ps:=aP 112 params) (l:=[e]) (t:=1) a0C (fun a h=>by rw[xy] at h;subst h;exact D8 hi ht hf bE hp he);have c1:=OT (X:=X) hi ht hf bE hp h;have c2:=AI (X:=X) (fl:=fl) (vs:=bW ints tables) (ps:=aP 112 params) 2 (nm 116 0);exact wr Y<|w7<|wl Y c0 Y<|wg 16 Y<|wl Y c1 Y<|wl Y c2 Y<|wt Y Y
 | @not d e he ih=>
  have c0:=pg (X:=X) (fl:=fl) (vs:=bW ints tables) (ps:=aP 112 params) (l:=[e]) (t:=2) a0C (fun a h=>by rw[xy] at h;subst h;exact ih);exact wr Y<|w7<|wl Y c0 Y<|wg 13 Y<|wt Y Y
 | @C4 d op h1 h2 a b ha hb kI dT=>
  have c0:=pg (X:=X) (fl:=fl) (vs:=bW ints tables) (ps:=aP 112 params) (l:=[a,b]) (t:=2) a0C (fun a h=>by
   rcases xG.1 h with rfl|h
   ·exact kI
   ·rw[xy] at h;subst h;exact dT)
  have:op=22\/op=23:=a0B
  rcases this with rfl|rfl
  ·exact wr Y<|w7<|wl Y c0 Y<|wg 14 Y<|wt Y Y
  ·exact wr Y<|w7<|wl Y c0 Y<|wg 15 Y<|wt Y Y
 | @cmp d op h1 h2 a b ha hb=>
  have c0:=pg (X:=X) (fl:=fl) (vs:=bW ints tables) (ps:=aP 112 params) (l:=[a,b]) (t:=1) a0C (fun a h=>by
   rcases xG.1 h with rfl|h
   ·exact D8 hi ht hf bE hp ha
   ·rw[xy] at h;subst h;exact D8 hi ht hf bE hp hb)
  have:op=16\/op=17\/op=18\/op=19\/op=20\/op=21:=a0B
  rcases this with rfl|rfl|rfl|rfl|rfl|rfl
  ·exact wr Y<|w7<|wl Y c0 Y<|wg 11 Y<|wt Y Y
  ·exact wr Y<|w7<|wl Y c0 Y<|wg 12 Y<|wt Y Y
  ·exact wr Y<|w7<|wl Y c0 Y<|wg 17 Y<|wt Y Y
  ·exact wr Y<|w7<|wl Y c0 Y<|wg 18 Y<|wt Y Y
  ·exact wr Y<|w7<|wl Y c0 Y<|wg 19 Y<|wt Y Y
  ·exact wr Y<|w7<|wl Y c0 Y<|wg 20 Y<|wt Y Y
end
end
end Go.Proofs.YthicpeihkkokmaaGreatDoor
namespace Go.Fl
open Go.Ex
variable{ar:a0f}
theorem gZ.fg{f:dg}(h:gZ ar f):Go.Proofs.YthicpeihkkokmaaGreatDoor.Fa f.flags f.flags.length:=⟨rfl,h.flags.2⟩
theorem DI{i j:Nat}(hi:i<100)(hj:j<100)(h:[(97+i).toUInt8]=[(97+j).toUInt8]):i=j:=by
 simp only [List.cons.injEq,and_true] at h;have e:=congrArg UInt8.toNat h;simp at e;omega
theorem gZ.find{f:dg}(h:gZ ar f){i:Nat}(hi:i<ar.length):∃c,f.comps[i]? =some c/\zz f.comps [(97+i).toUInt8]=some c:=by
 have hn:=h.n;have gx:i<f.comps.length:=a0B
 refine⟨f.comps[i],xc gx,?_⟩;unfold zz;cases hc:f.comps.find? (fun v=>v.name==[(97+i).toUInt8]) with
 |none=>
  have:=List.find?_eq_none.1 hc f.comps[i] (List.getElem_mem gx);rw[(h.comps i _ (xc gx)).name] at this;simp at this
 |some c=>
  have h1:=List.find?_some hc;obtain⟨j,hj⟩:=qI (List.mem_of_find?_eq_some hc);have fV:=iR hj;rw[(h.comps j c hj).name] at h1;have h1:[(97+j).toUInt8]=[(97+i).toUInt8]:=by simpa using h1
  obtain rfl:=DI a0B a0B h1;rw[xc gx] at hj;exact hj.symm
theorem jm.qc{nf i:Nat}{c:Cm}{al:a0g}(hc:jm nf ar i c)(aQ:ar[i]? =some al)(dQ:al.length<=3){k n:Nat}(hk:al[k]? =some n):∃h,qc c.aT (nm 104 k)=some h/\h.params.length=n:=by
 obtain⟨ints,tables,NM,_,_,_,zP,_,_,_,⟨l,hl,kJ⟩,hv⟩:=hc.rest;rw[aQ] at zP;cases zP;have FC:=iR hk;unfold Fl.qc;cases hf:c.aT.flatten.find? (fun v=>v.name==nm 104 k) with
 |none=>
  have gU:k<l.length:=a0B
  have:=List.find?_eq_none.1 hf l[k] (List.mem_flatten.2 ⟨l,hl,List.getElem_mem gU⟩);rw[((hv l hl).2.2 k _ (xc gU)).name] at this;simp at this
 |some h=>
  have h1:=List.find?_some hf;obtain⟨l',fj,hm⟩:=List.mem_flatten.1 (List.mem_of_find?_eq_some hf);obtain⟨j,hj⟩:=qI hm;have fV:=iR hj;have aW:=hv l' fj;have ho:=aW.2.2 j h hj;rw[ho.name] at h1;have h1:nm 104 j=nm 104 k:=by simpa using h1
  obtain rfl:=(rS a0B a0B a0B a0B h1).2;obtain⟨n',fy,hp,_⟩:=ho.mm;rw[hk] at fy;cases fy;exact⟨h,rfl,by rw[hp];simp[aP]⟩
end Go.Fl
namespace Go.Proofs.YthicpeihkkokmaaGreatDoor
open Go.Ex Go.RowKit Go.Fl
variable{c:Cm}{l:List Fl.Ex}
section
variable{X:a0a}
abbrev vK(fl:List Fg)(vs:List Vr)(ps:a0s)(c:Cm)(pl:aq)(n:Nat)(f:dg)(w:aq):a0d:=
 [.sl (fl.map Fg.d),.sl (vs.map Vr.s),.sl (strs ps),.str c.name,.sl (c.vars.map Vr.s),.sl (ca c.aT),.str pl,iD n,.str f.name,.sl (f.flags.map Fg.d),.sl (f.links.map Lk.d),.sl (f.comps.map Cm.s),.str w,.str [],.str [],iD 0]
variable{fl:List Fg}{vs:List Vr}{ps:a0s}{pl:aq}{n:Nat}{f:dg}{w:aq}
theorem Oo{s:aq}{v:Vr}(h:Rn F X 59 0 (nP fl vs ps++[.str s]) (·=D2 (some v))):Rn F X 65 0 (vK fl vs ps c pl n f w++[.str s]) (·=bD v.type::vK fl vs ps c pl n f w):=by
 have h:Rn F X 59 0 (nP fl vs ps++[.str s]) (·=[.str v.name,bD v.type,iD v.init,.bool true]):=h;exact wr Y<|wl Y h rfl<|wt Y Y
theorem QW{t:Nat}(hl:l.length<=5)(h:∀e∈l,Rn F X 63 0 (nP fl vs ps++Ex.s e) (·=[bD t,.str [],iD 0])):Rn F X 66 0 (vK fl vs ps c pl n f w++[bD t,.sl (Ex.ss l)]) (·=vK fl vs ps c pl n f w):=by
 have loop:∀(aa V:List Fl.Ex),l=V++aa->Rn F X 66 1 ([bD t,.sl (Ex.ss l),jD l.length,jD V.length]++vK fl vs ps c pl n f w) (·=vK fl vs ps c pl n f w):=by
  intro aa
  induction aa with
  |nil=>
   intro V hp;rw[xj] at hp;subst hp;exact wr Y<|mf<|wn Y ai<|wt Y Y
  |cons a aa ih=>
   intro V hp;have aD:=bG hp;have ao:(Ex.ss l)[V.length]? =some (Ex.s a):=by rw[hp];exact qF _ _ _
   have ha:=h a (by rw[hp];simp);have next:=ih (V++[a]) (by rw[hp,bw]);rw[xa] at next;obtain⟨o1,n1,i1,a1⟩:=a;exact wr Y<|mf<|wy Y ai<|wo Y (aA ao Y)<|wg 1 Y<|xQ<|wl Y ha rfl<|wl Y (Oy f w []) rfl<|Wp.dO Y ay rfl<|wl Y (yB f w [] 10) rfl<|wo Y oA<|IB<|wj next
 exact wr Y<|wo Y (az (gF _))<|wj (loop l [] rfl)
theorem XJ{x:Cm}{s:aq}{fst:Nat}{h:Hn}(hx:x.aT.length<=1000/\∀v∈x.aT,v.length<=1000)(hh:qc x.aT s=some h)(iZ:h.params.length<=5)(aD:l.length=fst+h.params.length)(hl:l.length<=5)(ha:∀e∈l,Rn F X 63 0 (nP fl vs ps++Ex.s e) (·=[bD 1,.str [],iD 0])):
 Rn F X 67 0 (vK fl vs ps c pl n f w++[.str x.name,.sl (x.vars.map Vr.s),.sl (ca x.aT),.str s,.sl (Ex.ss l),iD fst]) (·=vK fl vs ps c pl n f w):=by
 have c1:=Oc (X:=X) hx.1 hx.2 s;rw[hh] at c1;have c1:Rn F X 48 0 [.sl (ca x.aT),.str s] (·=[.str h.name,.sl (strs h.params),.sl (St.ss h.body),.bool true]):=c1;have c2:=QW (X:=X) (c:=c) (pl:=pl) (n:=n) (f:=f) (w:=w) hl ha;have hss:=gF l;have gd:(strs h.params).length=h.params.length:=xm _;refine wr Y<|wl Y c1 Y<|wl Y (yB f w _ _) rfl<|wo Y (az (gF _))<|kF<|wo Y (eW a0B a0B)<|wo Y (az gd)<|wy Y ay<|wl Y (yB f w _ _) rfl<|wl Y c2 Y ?_;dsimp only [eA,Ex.r,St.r,c_,n_,lh,lg,k9,kZ,kY];exact wt Y Y
end
structure yr (X:a0a):Prop where
 Mj:∀n,n<=12->∃s:aq,s.length<=3/\Rn F X 111 0 [iD n] (·=[.str s])
structure At (ar:a0f) (f:dg) (own:Nat) (c:Cm) (ints tables params:Nat) (al:a0g):Prop where
 fl:gZ ar f
 kB:f.comps[own]? =some c
 aQ:ar[own]? =some al
 vars:c.vars=bW ints tables
 i:ints<=3
 t:tables<=1
 p:params<=2
section
variable{X:a0a}{ar:a0f}{f:dg}{own:Nat}{ints tables params n:Nat}{al:a0g}{pl w:aq}
theorem jm.small{nf i:Nat}{ar:a0f}(cS:∀l∈ar,1<=l.length/\l.length<=3/\∀n∈l,n<=2)(hc:jm nf ar i c):c.aT.length<=1000/\∀v∈c.aT,v.length<=1000:=by
 obtain⟨ints,tables,al,_,_,_,aQ,_,_,h2,_,hv⟩:=hc.rest;have:=(cS al (xu aQ)).2.1;exact⟨a0B,fun v h=>by have:=(hv v h).2.1;omega⟩
abbrev nM(f:dg)(ints tables params:Nat)(c:Cm)(pl:aq)(n:Nat)(w:aq):a0d:=vK f.flags (bW ints tables) (aP 112 params) c pl n f w
theorem aw0(ha:At ar f own c ints tables params al){B:a0p->Prop}{s:St}(hs:ma ⟨⟨ints,tables,f.flags.length,params⟩,ar,own⟩ B s):Rn F X 68 0 (nM f ints tables params c pl n w++St.s s) (·=nM f ints tables params c pl n w):=by
 have hi:=ha.i;have ht:=ha.t;have hp:=ha.p;have hf:Fa f.flags f.flags.length:=ha.fl.fg;have bE:=ha.fl.flags.1;have cS:=ha.fl.jC;have u:=fun e m=>yB (X:=X) f w m e
 have A1:∀l:List Fl.Ex,l.length<=5->(∀e∈l,fS ⟨ints,tables,f.flags.length,params⟩ 3 e)->Rn F X 66 0 (nM f ints tables params c pl n w++[bD 1,.sl (Ex.ss l)]) (·=nM f ints tables params c pl n w):=fun l h1 h2=>QW h1 (fun e he=>D8 hi ht hf bE hp (h2 e he))
 have A2:∀{e:Fl.Ex},ka ⟨ints,tables,f.flags.length,params⟩ 5 e->Rn F X 66 0 (nM f ints tables params c pl n w++[bD 2,.sl (Ex.ss [e])]) (·=nM f ints tables params c pl n w):=fun he=>QW a0C (fun e h=>by rw[xy] at h;subst h;exact br4 hi ht hf bE hp he)
 have V1:∀k,k<ints->Rn F X 65 0 (nM f ints tables params c pl n w++[.str (nm 120 k)]) (·=bD 1::nM f ints tables params c pl n w):=fun k hk=>Oo (v:=⟨nm 120 k,1,k⟩) (by have:=bq9 (X:=X) hi ht hf bE hp hk;rw[QI hi ht hk] at this;exact this)
 have V2:Rn F X 65 0 (nM f ints tables params c pl n w++[.str (nm 98 0)]) (·=bD 2::nM f ints tables params c pl n w):=Oo (v:=⟨nm 98 0,2,0⟩) (by have:=br0 (X:=X) hi ht hf bE hp;rw[QK hi ht] at this;exact this);have V3:0<tables->Rn F X 65 0 (nM f ints tables params c pl n w++[.str (nm 116 0)]) (·=bD 3::nM f ints tables params c pl n w):=fun h=>Oo (v:=⟨nm 116 0,3,0⟩) (by have:=Z6 (X:=X) hi ht hf bE hp h;rw[QJ hi ht h] at this;exact this)
 cases hs with
 | @nz k h e he=>
  have c1:=V1 k h;have c2:=A1 [e] a0C (uS he);refine wr Y<|kj<|wg 1 Y<|wl Y c1 Y<|wg 1 Y<|wl Y c2 Y ?_;dsimp only [eA,Ex.r,St.r,c_,n_,lh,lg,k9,kZ,kY,St.s];exact wt Y Y
 | @BS e he=>
  have c1:=V2;have c2:=A2 he;refine wr Y<|kj<|wg 1 Y<|wl Y c1 Y<|wg 2 Y<|wl Y c2 Y ?_;dsimp only [eA,Ex.r,St.r,c_,n_,lh,lg,k9,kZ,kY,St.s];exact wt Y Y
 | @put h a b ha hb=>
  have c1:=V3 h;have c2:=A1 [a,b] a0C (Md ha hb);refine wr Y<|kj<|wg 2 Y<|wl Y c1 Y<|wg 1 Y<|wl Y (u _ _) rfl<|wl Y c2 Y ?_;dsimp only [eA,Ex.r,St.r,c_,n_,lh,lg,k9,kZ,kY,St.s];exact wt Y Y
 | @del h a ha=>
  have c1:=V3 h;have c2:=A1 [a] a0C (uS ha);refine wr Y<|kj<|wg 3 Y<|wl Y c1 Y<|wg 1 Y<|wl Y (u _ _) rfl<|wl Y c2 Y ?_;dsimp only [eA,Ex.r,St.r,c_,n_,lh,lg,k9,kZ,kY,St.s];exact wt Y Y
 | @cond e he th el h1 h2=>
  have c2:=A2 he;exact wr Y<|kj<|wg 5 Y<|wl Y c2 Y<|Fc<|wt Y Y
 | @EB e he th h1=>
  have c2:=A2 he;exact wr Y<|kj<|wg 6 Y<|wl Y c2 Y<|Fc<|wt Y Y
 | @send i h m l gx hh es he hn=>
  obtain⟨x,pL,hx⟩:=ha.fl.find (iR gx);have x6:=ha.fl.comps i x pL;have dQ:=(cS l (xu gx)).2.1;have fU:=(cS l (xu gx)).2.2 m (xu hh);obtain⟨hd,ly,dY⟩:=x6.qc gx dQ hh;have c3:=Jr (X:=X) (l:=f.comps) (by have:=ha.fl.n;omega) [(97+i).toUInt8];rw[hx] at c3;have c3:Rn F X 49 0 [.sl (f.comps.map Cm.s),.str [(97+i).toUInt8]] (·=[.str x.name,.sl (x.vars.map Vr.s),.sl (ca x.aT),.bool true]):=c3;have c4:=XJ (X:=X) (fl:=f.flags) (vs:=bW ints tables) (ps:=aP 112 params) (c:=c) (pl:=pl) (n:=n) (f:=f) (w:=w) (fst:=0) (jm.small cS x6) ly a0B a0B a0B (fun e h=>D8 hi ht hf bE hp (he e h));exact wr Y<|kj<|wg 7 Y<|wl Y c3 Y<|wl Y (u _ _) rfl<|wl Y c4 rfl<|Cn<|wt Y Y
 | @Ci h m l gx hh es he hn=>
  have x6:=ha.fl.comps own c ha.kB;have dQ:=(cS l (xu gx)).2.1;have fU:=(cS l (xu gx)).2.2 m (xu hh);obtain⟨hd,ly,dY⟩:=x6.qc gx dQ hh;have c4:=XJ (X:=X) (fl:=f.flags) (vs:=bW ints tables) (ps:=aP 112 params) (c:=c) (pl:=pl) (n:=n) (f:=f) (w:=w) (fst:=1) (jm.small cS x6) ly a0B a0B a0B (fun e h=>D8 hi ht hf bE hp (he e h));exact wr Y<|kj<|wg 8 Y<|wl Y c4 rfl<|Fc<|wt Y Y
 | @store a b ha hb el h2=>
  have c2:=A1 [a,b] a0C (Md ha hb);exact wr Y<|kj<|wg 9 Y<|wl Y c2 Y<|Fc<|wt Y Y
 | @Eo k h a ha el h2=>
  have c1:=V1 k h;have c2:=A1 [a] a0C (uS ha);refine wr Y<|kj<|wg 4 Y<|wl Y c1 Y<|wg 1 Y<|wl Y (u _ _) rfl<|wl Y c2 Y ?_;dsimp only [eA,Ex.r,St.r,c_,n_,lh,lg,k9,kZ,kY,St.s];exact wt Y Y
 |stop=>
  exact wr Y<|kj<|wg 9 Y<|wt Y Y
theorem av2(hX:yr X)(ha:At ar f own c ints tables params al)(iZ:pl.length<=100):∀(m:Nat) (l:a0p) (d n:Nat) (w:aq),St.ns l<=m->j8 ⟨⟨ints,tables,f.flags.length,params⟩,ar,own⟩ d l->n+St.ns l<=12->Rn F X 69 0 (nM f ints tables params c pl n w++[.sl (St.ss l)]) (fun o=>∃w',o=nM f ints tables params c pl (n+St.ns l) w'):=by
 intro m
 induction m with
 |zero=>
  intro l d n w hl _ _;have:=nj l;obtain rfl:l=[]:=xE.1 a0B;exact wr Y<|wo Y bf<|b_ Y<|wr Y<|wg 1 Y<|wt Y ⟨w,rfl⟩
 |succ m ih=>
  intro l d n w hl hb hn;have loop:∀(aa V:a0p),l=V++aa->∀w,Rn F X 69 1 ([.sl (St.ss l),jD l.length,jD V.length]++nM f ints tables params c pl (n+St.ns V) w) (fun o=>∃w',o=nM f ints tables params c pl (n+St.ns l) w'):=by
   intro aa
   induction aa with
   |nil=>
    intro V hp w;rw[xj] at hp;subst hp;exact wr Y<|gS<|wn Y ai<|wt Y ⟨w,rfl⟩
   |cons a aa cX=>
    intro V hp w;have aD:=bG hp;have kJ:=nj l;have ao:(St.ss l)[V.length]? =some (St.s a):=by rw[hp];exact vV _ _ _
    have lR:St.ns l=St.ns V+(St.n a+St.ns aa):=by rw[hp,St.wc];rfl
    have next:=cX (V++[a]) (by rw[hp,bw]);obtain⟨d,rfl⟩:∃x,d=x+1:=by
     cases d with
     |zero=>rw[show l=[] from hb] at hp;simp at hp
     |succ x=>exact⟨x,rfl⟩
    have hs:=hb a (by rw[hp];simp);obtain⟨s1,df,c1⟩:=hX.Mj (n+St.ns V) a0B;have c3:=fun w=>aw0 (X:=X) (pl:=pl) (n:=n+St.ns V+1) (w:=w) ha hs
    obtain⟨kind,name,cf,bh,th,el⟩:=a;obtain⟨n1,n2⟩:=hs.nest;simp only [St.n] at lR;have b1:∃d',j8 ⟨⟨ints,tables,f.flags.length,params⟩,ar,own⟩ d' th:=by
     rcases n1 with rfl|h
     ·exact⟨0,rfl⟩
     ·exact⟨_,h⟩
    have b2:∃d',j8 ⟨⟨ints,tables,f.flags.length,params⟩,ar,own⟩ d' el:=by
     rcases n2 with rfl|h
     ·exact⟨0,rfl⟩
     ·exact⟨_,h⟩
    obtain⟨d1,b1⟩:=b1;obtain⟨d2,b2⟩:=b2;have c4:=fun w=>ih th d1 (n+St.ns V+1) w a0B b1 a0B
    have c5:=fun w=>ih el d2 (n+St.ns V+1+St.ns th) w a0B b2 a0B
    have e1:n+St.ns (V++[St.mk kind name cf bh th el])=n+St.ns V+1+St.ns th+St.ns el:=by rw[St.wc];simp[St.ns,St.n];omega
    rw[e1,xa] at next;refine wr Y<|gS<|wy Y ai<|wo Y (aA ao Y)<|wg 1 Y<|om<|wl Y c1 Y<|wo Y (dH a0B)<|wl Y (HN f _ _) rfl<|wo Y oA<|Fc<|wl Y (c3 _) rfl<|MT<|wg 1 Y<|wx Y (c4 _) fun|_,⟨w4,rfl⟩=>⟨Y,?_⟩
    dsimp only [eA,Ex.r,St.r,c_,n_,lh,lg,k9,kZ,kY,St.s];refine wg 1 Y<|wx Y (c5 _) fun|_,⟨w5,rfl⟩=>⟨Y,?_⟩
    dsimp only [eA,Ex.r,St.r,c_,n_,lh,lg,k9,kZ,kY,St.s];exact wo Y oA<|b_ Y (next _)
  have:=loop l [] rfl w;exact wr Y<|wo Y (az (mC _))<|wj this
end
end Go.Proofs.YthicpeihkkokmaaGreatDoor
namespace Go.Fl
open Go.Ex
theorem ay9{a b n:Nat}(h1:a/n=b/n)(h2:a%n=b%n):a=b:=by
 rw[<-Nat.div_add_mod a n,<-Nat.div_add_mod b n,h1,h2]
theorem gZ.bt4{ar:a0f}{f:dg}(h:gZ ar f):f.links.Pairwise (fun x y=> ¬(x.src=y.src/\x.dst=y.dst)):=by
 obtain⟨ks,dW,hp,hk⟩:=h.links;have hn:=h.n;have h9:ar.length*ar.length<=9:=Nat.mul_le_mul hn.2.2 hn.2.2;rw[dW,List.pairwise_map];refine hp.imp_of_mem (fun{p q} hp hq bk he=> ?_);have h1:=hk p hp;have h2:=hk q hq;have d1:p.1/ar.length<ar.length:=Nat.div_lt_of_lt_mul h1.1;have d2:q.1/ar.length<ar.length:=Nat.div_lt_of_lt_mul h2.1;have m1:p.1%ar.length<ar.length:=Nat.mod_lt _ hn.2.1;have m2:q.1%ar.length<ar.length:=Nat.mod_lt _ hn.2.1;have e1:=DI a0B a0B he.1;have e2:=DI a0B a0B he.2;have:=ay9 e1 e2;omega
theorem gZ.bi4{ar:a0f}{f:dg}(h:gZ ar f):∀x∈f.links,(∃i,i<ar.length/\x.src=[(97+i).toUInt8])/\∃i,i<ar.length/\x.dst=[(97+i).toUInt8]:=by
 obtain⟨ks,dW,hp,hk⟩:=h.links;have hn:=h.n;intro x hx;rw[dW] at hx;obtain⟨p,hp,rfl⟩:=xJ.1 hx;exact⟨⟨_,Nat.div_lt_of_lt_mul (hk p hp).1,rfl⟩,_,Nat.mod_lt _ hn.2.1,rfl⟩
theorem aK3{α:Type}{l V aa:List α}(h:l=V++aa):l.take V.length=V:=by rw[h];exact List.take_left
theorem bi5{i c k:Nat}:[(97+i).toUInt8]≠nm c k:=by
 intro h;have:=congrArg List.length h;simp[nm] at this
end Go.Fl
namespace Go.Proofs.YthicpeihkkokmaaGreatDoor
open Go.Ex Go.RowKit Go.Fl
variable{X:a0a}{ar:a0f}{c:Cm}{al:a0g}{r:a0d}{code:a0b}
section
variable{f:dg}{own:Nat}{ints tables params n:Nat}{pl w:aq}
theorem DB{α:Type}{g:α->a0d}{l V aa:List α}(h:l=V++aa):(l.map g).take V.length=V.map g:=by rw[<-List.map_take,aK3 h]
theorem aS3(hI:yr X)(ha:At ar f own c ints tables params al){k:Nat}{h:Hn}{IC:aq}(hv:IC.length<=20)(mY:h.params=aP 112 params)(hb:j8 ⟨⟨ints,tables,f.flags.length,params⟩,ar,own⟩ 4 h.body)(ii:h.name.length<=6)(hn:St.ns h.body<=12):
 Rn F X 56 0 (gi f w++[.str c.name,.sl (c.vars.map Vr.s),.sl (ca c.aT),.str h.name,.sl (strs h.params),.sl (St.ss h.body),.str IC]) (fun o=>∃w',o=gi f w'):=by
 obtain⟨Bx,bN0,Em⟩:=h;simp only at mY hb ii hn;subst mY;have hi:=ha.i;have ht:=ha.t;have hp:=ha.p;have hf:Fa f.flags f.flags.length:=ha.fl.fg;have bE:=ha.fl.flags.1;obtain⟨l1,l2,l3⟩:=zA hi ht hf bE hp;have yg:c.name.length=1:=by rw[(ha.fl.comps own c ha.kB).name];rfl
 have bI:=ha.vars;have gd:(strs (aP 112 params)).length=params:=by simp[strs,aP]
 have eI:(aP 112 params).length=params:=by simp[aP]
 have c9:∀pl:aq,pl.length<=100->Rn F X 69 0 ([.sl (f.flags.map Fg.d),.sl (c.vars.map Vr.s),.sl (strs (aP 112 params)),.str c.name,.sl (c.vars.map Vr.s),.sl (ca c.aT),.str pl,iD 0]++gi f w++[.sl (St.ss Em)]) (fun o=>∃w',o=nM f ints tables params c pl (0+St.ns Em) w'):=fun pl iZ=>by
  have:=av2 hI ha iZ 12 Em 4 0 w a0B hb a0B;unfold nM vK at this⊢;rw[bI] at this⊢;exact this
 have loop:∀(aa V:a0s),aP 112 params=V++aa->Rn F X 56 1 ([.str IC,.sl (strs (aP 112 params)),jD params,jD V.length]++gi f w++[.str c.name,.sl (c.vars.map Vr.s),.sl (ca c.aT),.str Bx,.sl (St.ss Em)]) (fun o=>∃w',o=gi f w'):=by
  intro aa
  induction aa with
  |nil=>
   intro V aJ;rw[xj] at aJ;have e:V.length=params:=by rw[<-aJ];exact eI
   rw[e];refine wr Y<|hZ<|wn Y ai<|wo Y (dH a0F)<|wo Y (dH a0F)<|wo Y (dH a0F)<|wo Y (dH a0F)<|jy<|wo Y (dH a0F)<|wg 1 Y<|wx Y (c9 _ a0F) fun|_,⟨w',rfl⟩=>⟨Y,?_⟩
   exact wt Y ⟨w',rfl⟩
  |cons a aa cX=>
   intro V aJ;have aD:=bG aJ;have ao:(strs (aP 112 params))[V.length]? =some [.str a]:=cA (f:=fun p:aq=>[D.str p]) aJ;have mW:(strs (aP 112 params)).take V.length=strs V:=DB (g:=fun p:aq=>[D.str p]) aJ;have ea:a=nm 112 V.length:=by
    have h1:=v7 aJ;have bk:V.length<params:=a0B
    rw[aP,xx,List.getElem?_range bk] at h1;cases h1;rfl
   have bE8:a∉V:=by
    intro hm;have EO:∀x∈V,∃j,j<V.length/\x=nm 112 j:=fun x hx=>by
     obtain⟨j,hj⟩:=qI hx;have fV:=iR hj;have h1:(aP 112 params)[j]? =some x:=by rw[aJ,xw fV];exact hj
     rw[aP,xx,List.getElem?_range a0B] at h1;cases h1;exact⟨j,fV,rfl⟩
    obtain⟨j,hj,e⟩:=EO a hm;rw[ea] at e;have:=(rS a0B a0B a0B a0B e).2;omega
   have c1:=yt (X:=X) l2 a;rw[ea,YO hi ht a0B a0B a0B,<-ea,<-bI] at c1;have c1:Rn F X 47 0 [.sl (c.vars.map Vr.s),.str a] (·=[.str [],bD 0,iD 0,.bool false]):=c1;have c2:=GA (X:=X) l1 a;rw[PX hf (fun j hj=>by rw[ea];intro e;have:=rS a0B a0B a0B a0B e;omega)] at c2;have c3:=yw (X:=X) (l:=V) a0B a;rw[f_ bE8] at c3;have u:=yB (X:=X) f w a 5;have next:=cX (V++[a]) (by rw[aJ,bw]);rw[xa] at next;refine wr Y<|hZ<|wy Y ai<|wo Y (aA ao Y)<|wg 1 Y<|wl Y c1 Y<|wl Y c2 Y<|xR ?_
   (refine e_ Y (nw (by rw[gd];omega)) rfl ?_;rw[mW])
   exact wl Y c3 Y<|wl Y u rfl<|wo Y oA<|kF<|wj next
 have:=loop (aP 112 params) [] rfl;exact wr Y<|wo Y (az gd)<|wj this
theorem aQ1(hf:gZ ar f):Rn F X 54 0 (gi f w) (fun o=>∃w',o=gi f w'):=by
 have I4:=hf.fg;have bE:=hf.flags.1;have loop:∀(aa V:List Fg),f.flags=V++aa->∀w,Rn F X 54 1 ([.sl (f.flags.map Fg.d),jD f.flags.length,jD V.length]++gi f w) (fun o=>∃w',o=gi f w'):=by
  intro aa
  induction aa with
  |nil=>
   intro V hp w;rw[xj] at hp;rw[hp];exact wr Y<|dC<|wn Y ai<|wt Y ⟨w,rfl⟩
  |cons a aa ih=>
   intro V hp w;have aD:=bG hp;have ao:=cA (f:=Fg.d) hp;have mW:=DB (g:=Fg.d) hp;have pR:=cq Fg.d f.flags;have ea:=I4.2 _ _ (v7 hp);have EO:uZ V a.name=false:=List.any_eq_false.2 (fun x hx=>by
    obtain⟨j,hj⟩:=qI hx;have fV:=iR hj;have h1:f.flags[j]? =some x:=by rw[hp,xw fV];exact hj
    rw[I4.2 j x h1,ea];intro e;have e:nm 102 j=nm 102 V.length:=by simpa using e
    have:=(rS a0B a0B a0B a0B e).2;omega)
   have c2:=GA (X:=X) (l:=V) a0B a.name;rw[EO] at c2;have aQ:a.name.length=2:=by rw[ea];rfl
   have next:=ih (V++[a]) (by rw[hp,bw]);rw[xa] at next;obtain⟨an,ab⟩:=a;simp only at aQ c2;have u:=fun w e=>yB (X:=X) f w an e
   cases ab
   ·refine wr Y<|dC<|wy Y ai<|wo Y (aA ao Y)<|wg 2 Y<|nL<|wo Y (dH a0F)<|wl Y (HN f _ _) rfl ?_
    (refine e_ Y (nw (by rw[pR];omega)) rfl ?_;rw[mW])
    exact wl Y c2 Y<|om<|wl Y (u _ _) rfl<|wo Y oA<|b_ Y (next _)
   ·refine wr Y<|dC<|wy Y ai<|wo Y (aA ao Y)<|wg 1 Y<|nL<|wo Y (dH a0F)<|wl Y (HN f _ _) rfl ?_
    (refine e_ Y (nw (by rw[pR];omega)) rfl ?_;rw[mW])
    exact wl Y c2 Y<|om<|wl Y (u _ _) rfl<|wo Y oA<|b_ Y (next _)
 have:=loop f.flags [] rfl w;exact wr Y<|wo Y (az (cq _ _))<|wj this
theorem aB4{l:List Lk}(hl:l.length<=1000){s d:aq}{t:Nat}(h:∀x∈l,¬(x.src=s/\x.dst=d)):Rn F X 45 0 [.sl (l.map Lk.d),.ptr [.str s,.str d,iD t] 0] (·=[.int .i64 (-1)]):=by
 have loop:∀(aa V:List Lk),l=V++aa->Rn F X 45 1 [.sl (l.map Lk.d),.ptr [.str s,.str d,iD t] 0,jD l.length,jD V.length] (·=[.int .i64 (-1)]):=by
  intro aa
  induction aa with
  |nil=>
   intro V hp;rw[xj] at hp;subst hp;exact wr Y<|wn Y ai<|wt Y Y
  |cons a aa ih=>
   intro V hp;have aD:=bG hp;have ao:=cA (f:=Lk.d) hp;have ha:=h a (by rw[hp];simp);have next:=ih (V++[a]) (by rw[hp,bw]);rw[xa] at next;obtain⟨a1,a2,a3⟩:=a;simp only at ha;by_cases hs:a1=s
   ·have hd: ¬a2=d:=fun hd=>ha ⟨hs,hd⟩
    exact wr Y<|wy Y ai<|wo Y (aA ao Y)<|wg 1 Y<|w8<|wg 2 Y<|Wp.dO Y jE hs<|wg 2 Y<|mg<|Wp.dF Y jE hd<|wo Y oA<|wj next
   ·exact wr Y<|wy Y ai<|wo Y (aA ao Y)<|wg 1 Y<|w8<|wg 2 Y<|Wp.dF Y jE hs<|wo Y oA<|wj next
 exact wr Y<|wo Y (az (cq _ _))<|wj (loop l [] rfl)
theorem aO3(hf:gZ ar f):Rn F X 55 0 (gi f w) (fun o=>∃w',o=gi f w'):=by
 have hn:=hf.n;have hl9:=hf.ok.links.1;have loop:∀(aa V:List Lk),f.links=V++aa->∀w,Rn F X 55 1 ([.sl (f.links.map Lk.d),jD f.links.length,jD V.length]++gi f w) (fun o=>∃w',o=gi f w'):=by
  intro aa
  induction aa with
  |nil=>
   intro V hp w;rw[xj] at hp;rw[hp];exact wr Y<|dC<|wn Y ai<|wt Y ⟨w,rfl⟩
  |cons a aa ih=>
   intro V hp w;have aD:=bG hp;have ao:=cA (f:=Lk.d) hp;have mW:=DB (g:=Lk.d) hp;have pR:=cq Lk.d f.links;have hpw:=hf.bt4;rw[hp] at hpw;have jA:∀x∈V,¬(x.src=a.src/\x.dst=a.dst):=fun x hx=>(List.pairwise_append.1 hpw).2.2 x hx a a0C
   obtain⟨⟨i1,ua,e1⟩,i2,fW,e2⟩:=hf.bi4 a (by rw[hp];simp);obtain⟨x1,_,q1⟩:=hf.find ua;obtain⟨x2,_,q2⟩:=hf.find fW;have c1:=Jr (X:=X) (l:=f.comps) a0B a.src;rw[e1,q1,<-e1] at c1;have c1:Rn F X 49 0 [.sl (f.comps.map Cm.s),.str a.src] (·=[.str x1.name,.sl (x1.vars.map Vr.s),.sl (ca x1.aT),.bool true]):=c1;have c2:=Jr (X:=X) (l:=f.comps) a0B a.dst;rw[e2,q2,<-e2] at c2;have c2:Rn F X 49 0 [.sl (f.comps.map Cm.s),.str a.dst] (·=[.str x2.name,.sl (x2.vars.map Vr.s),.sl (ca x2.aT),.bool true]):=c2;have c3:=aB4 (X:=X) (l:=V) (t:=a.Aa) a0B jA;have l1:a.src.length=1:=by rw[e1];rfl
   have l2:a.dst.length=1:=by rw[e2];rfl
   have next:=ih (V++[a]) (by rw[hp,bw]);rw[xa] at next;have u:=fun w n e=>yB (X:=X) f w n e
   obtain⟨a1,a2,a3⟩:=a;simp only at c1 c2 c3 l1 l2;have p2:∀w,Rn F X 55 2 ([jD V.length,.sl (f.links.map Lk.d),jD f.links.length,iD 2]++gi f w++[.str a1,.str a2,iD a3]) (fun o=>∃w',o=gi f w'):=by
    intro w;refine wr Y<|ei<|wg 1 Y ?_
    (refine e_ Y (nw (by rw[pR];omega)) rfl ?_;rw[mW])
    exact wg 2 Y<|wL Y c3 Y<|wg 1 Y<|wl Y (u _ _ _) rfl<|jL<|wo Y oA<|b_ Y (next _)
   have p1:∀w,Rn F X 55 2 ([jD V.length,.sl (f.links.map Lk.d),jD f.links.length,iD 1]++gi f w++[.str a1,.str a2,iD a3]) (fun o=>∃w',o=gi f w'):=by
    intro w;exact wr Y<|ei<|wg 3 Y<|wl Y c2 Y<|wl Y (u _ _ _) rfl<|wo Y oI<|pH<|b_ Y (p2 _)
   have p0:∀w,Rn F X 55 2 ([jD V.length,.sl (f.links.map Lk.d),jD f.links.length,iD 0]++gi f w++[.str a1,.str a2,iD a3]) (fun o=>∃w',o=gi f w'):=by
    intro w;exact wr Y<|ei<|wg 3 Y<|wl Y c1 Y<|wl Y (u _ _ _) rfl<|wo Y oI<|pH<|b_ Y (p1 _)
   exact wr Y<|dC<|wy Y ai<|wo Y (aA ao Y)<|wg 1 Y<|ei<|wo Y (dH a0F)<|wo Y (dH a0F)<|wo Y (dH a0F)<|wl Y (HN f _ _) rfl<|jL<|b_ Y (p0 _)
 have:=loop f.links [] rfl w;exact wr Y<|wo Y (az (cq _ _))<|wj this
end
section
variable{f:dg}{own:Nat}{n:Nat}{w:aq}
theorem aJ4{l V aa:a0y}(h:l=V++aa):(ca l).take V.length=ca V:=DB (g:=fun l:List Hn=>[D.sl (l.map Hn.s)]) h
theorem aR2(hI:yr X)(hf:gZ ar f){i:Nat}(hi:f.comps[i]? =some c):Rn F X 57 0 (gi f w++[jD i]) (fun o=>∃w',o=gi f w'):=by
 have hn:=hf.n;have I4:=hf.fg;have bE:=hf.flags.1;have ov:=iR hi;have FL:=hf.comps i c hi;obtain⟨ints,tables,al,i1,i3,t1,aQ,LC,mq,dK,hvl,bI⟩:=FL.rest;have cS:=hf.jC;have am9:=(cS al (xu aQ)).2.1;have bI7:=(cS al (xu aQ)).2.2;have cn:c.name=[(97+i).toUInt8]:=FL.name;have cnl:c.name.length=1:=by rw[cn];rfl
 have NL:∀w w',Rn F X 53 0 (gi f w++[.str w']) (·= .bool true::gi f w'):=fun w w'=>HN f w w'
 have u:=fun w n e=>yB (X:=X) f w n e
 have CK:f.flags.length<=1000:=a0B
 have KB:c.vars=bW ints tables:=LC;have hvn:c.vars.length=ints+1+tables:=by rw[KB];exact NY _ _
 have vNd:∀(V aa:List Vr) (v:Vr),c.vars=V++v::aa->qO V v.name=none/\uZ f.flags v.name=false/\v.name.length=2:=by
  intro V aa v hp;have dj:(c.vars.map Vr.name).Nodup:=by
   rw[KB];have a:ints=1\/ints=2\/ints=3:=a0B
   have b:tables=0\/tables=1:=a0B
   rcases a with rfl|rfl|rfl<;>rcases b with rfl|rfl<;>decide
  obtain⟨cc,kk,e,h'⟩:=VS (n:=ints) (t:=tables) (v:=v) (by rw[<-KB,hp];simp);refine⟨List.find?_eq_none.2 (fun x hx=> ?_),PX I4 (fun j hj=> ?_),by rw[e];rfl⟩
  ·rw[hp,List.map_append,List.map_cons,List.nodup_append] at dj;have:=dj.2.2 x.name (xJ.2 ⟨x,hx,rfl⟩) v.name a0C;simpa using this
  ·rw[e];intro e2;have:=rS a0B a0B a0B a0B e2;omega
 have lF:∀(aa V:a0y),c.aT=V++aa->∀w,Rn F X 57 2 ([.sl (ca c.aT),jD c.aT.length,jD V.length]++gi f w++[.str c.name,.sl (c.vars.map Vr.s)]) (fun o=>∃w',o=gi f w'):=by
  intro aa
  induction aa with
  |nil=>
   intro V hp w;rw[xj] at hp;rw[hp];exact wr Y<|mS<|wn Y ai<|wt Y ⟨w,rfl⟩
  |cons v aa ih=>
   intro V hp w;have aD:=bG hp;have ao:(ca c.aT)[V.length]? =some [.sl (v.map Hn.s)]:=cA (f:=fun l:List Hn=>[D.sl (l.map Hn.s)]) hp;have mW:=aJ4 hp;have aj2:(ca c.aT).length=c.aT.length:=xm _;have hv:=bI v (by rw[hp];simp);have next:=ih (V++[v]) (by rw[hp,bw]);rw[xa] at next;obtain⟨s1,df,MO⟩:=hI.Mj (V.length+1) a0B;have mJ:∀(ee bt:List Hn),v=bt++ee->∀w,Rn F X 57 3 ([jD V.length,.sl (ca c.aT),jD c.aT.length,.sl (v.map Hn.s),jD v.length,jD bt.length]++gi f w++[.str c.name,.sl (c.vars.map Vr.s)]) (fun o=>∃w',o=gi f w'):=by
    intro ee
    induction ee with
    |nil=>
     intro bt bH w;rw[xj] at bH;subst bH;exact wr Y<|oT<|wn Y ai<|wo Y oA<|b_ Y (next _)
    |cons h ee mV=>
     intro bt bH w;have ww:=bG bH;have gW:=cA (f:=Hn.s) bH;have aj4:=DB (g:=Hn.s) bH;have al2:=cq Hn.s v;have fQ:=mV (bt++[h]) (by rw[bH,bw]);rw[xa] at fQ;have ho:=hv.2.2 bt.length h (v7 bH);obtain⟨m,hm,mY,hb⟩:=ho.mm;have fU:=bI7 m (xu hm);have IX:=iR hm;have lR:h.name.length=2:=by rw[ho.name];rfl
     have named:∀l∈c.aT,∀x∈l,∀k,x.name=nm 104 k->k<3->∃j,l[j]? =some x/\j=k:=by
      intro l hl x hx k hxk hk;obtain⟨j,hj⟩:=qI hx;have fV:=iR hj;have h2:=bI l hl;have h3:=(h2.2.2 j x hj).name;rw[hxk] at h3;exact⟨j,hj,(rS a0B a0B a0B a0B h3).2.symm⟩
     have n1:qc [bt] h.name=none:=List.find?_eq_none.2 (fun x hx=>by
      have hx:x∈bt:=by simpa using hx
      intro e;have e:x.name=h.name:=by simpa using e
      obtain⟨j,hj⟩:=qI hx;have fV:=iR hj;have h1:v[j]? =some x:=by rw[bH,xw fV];exact hj
      have h3:=(hv.2.2 j x h1).name;rw[e,ho.name] at h3;have:=(rS a0B a0B a0B a0B h3).2;omega)
     have c1:=Oc (X:=X) (l:=[bt]) a0C (fun x hx=>by rw[xy] at hx;subst hx;omega) h.name;rw[n1] at c1;have c1:Rn F X 48 0 [.sl [[.sl (bt.map Hn.s)]],.str h.name] (·=[.str [],.sl [],.sl [],.bool false]):=c1;have c2:=Oc (X:=X) (l:=V) a0B (fun x hx=>by have:=(bI x (by rw[hp];simp[hx])).2.1;omega) h.name;have cB:=fun w (IC:aq) (bC8:IC.length<=20)=>aS3 (X:=X) (w:=w) (k:=0) hI (⟨hf,hi,aQ,KB,i3,t1,fU⟩:At ar f i c ints tables m al) bC8 mY hb a0B ho.n
     have iZ:h.params.length=m:=by rw[mY];simp[aP]
     have gd:(strs h.params).length=m:=by rw[<-iZ];exact xm _
     cases hq:qc V h.name with
     |none=>
      rw[hq] at c2;have c2:Rn F X 48 0 [.sl (ca V),.str h.name] (·=[.str [],.sl [],.sl [],.bool false]):=c2;obtain⟨h1,h2,h3⟩:=h;simp only at lR c1 c2 cB iZ gd;refine wr Y<|oT<|wy Y ai<|wo Y (aA gW Y)<|wg 1 Y<|mf<|wo Y (dH a0F)<|wo Y (dH a0F)<|wo Y (dH a0F)<|wo Y (dH a0F)<|xR<|wo Y oA<|wl Y MO rfl<|wo Y (dH a0F)<|wl Y (NL _ _) rfl<|kF ?_
      (refine e_ Y (nw (by rw[al2];omega)) rfl ?_;rw[aj4])
      refine wg 2 Y<|wL Y c1 Y<|wl Y (u _ _ _) rfl<|Cn ?_
      (refine e_ Y (nw (by rw[aj2];omega)) rfl ?_;rw[mW])
      refine wl Y c2 Y<|wl Y (u _ _ _) rfl<|wo Y oA ?_;dsimp only [eA,Ex.r,St.r,c_,n_,lh,lg,k9,kZ,kY,Hn.s];refine wl Y MO rfl<|wo Y (dH a0F)<|wg 1 Y<|wx Y (cB _ _ a0F) fun|_,⟨w2,rfl⟩=>⟨Y,?_⟩
      dsimp only [eA,Ex.r,St.r,c_,n_,lh,lg,k9,kZ,kY,Hn.s];exact wo Y oA<|b_ Y (fQ _)
     |some b=>
      rw[hq] at c2;have c2:Rn F X 48 0 [.sl (ca V),.str h.name] (·=[.str b.name,.sl (strs b.params),.sl (St.ss b.body),.bool true]):=c2;have Ao:b.name=h.name:=by simpa using List.find?_some hq
      have hbp:b.params.length=m:=by
       obtain⟨l,hl,hx⟩:=List.mem_flatten.1 (List.mem_of_find?_eq_some hq);have UC:l∈c.aT:=by rw[hp];simp[hl]
       obtain⟨j,hj,rfl⟩:=named l UC b hx _ (by rw[Ao];exact ho.name) a0B;obtain⟨m',yd,bD8,_⟩:=((bI l UC).2.2 _ b hj).mm;rw[hm] at yd;cases yd;rw[bD8];simp[aP]
      have hbs:(strs b.params).length=m:=by rw[<-hbp];exact xm _
      obtain⟨h1,h2,h3⟩:=h;simp only at lR c1 c2 cB iZ gd;refine wr Y<|oT<|wy Y ai<|wo Y (aA gW Y)<|wg 1 Y<|mf<|wo Y (dH a0F)<|wo Y (dH a0F)<|wo Y (dH a0F)<|wo Y (dH a0F)<|xR<|wo Y oA<|wl Y MO rfl<|wo Y (dH a0F)<|wl Y (NL _ _) rfl<|kF ?_
      (refine e_ Y (nw (by rw[al2];omega)) rfl ?_;rw[aj4])
      refine wg 2 Y<|wL Y c1 Y<|wl Y (u _ _ _) rfl<|Cn ?_
      (refine e_ Y (nw (by rw[aj2];omega)) rfl ?_;rw[mW])
      refine wl Y c2 Y<|wo Y (az hbs)<|wo Y (az gd) ?_;dsimp only [eA,Ex.r,St.r,c_,n_,lh,lg,k9,kZ,kY,Hn.s];refine Wp.dO Y ay rfl<|wl Y (u _ _ _) rfl<|wo Y oA<|wl Y MO rfl<|wo Y (dH a0F) ?_;dsimp only [eA,Ex.r,St.r,c_,n_,lh,lg,k9,kZ,kY,Hn.s];refine wg 1 Y<|wx Y (cB _ _ a0F) fun|_,⟨w2,rfl⟩=>⟨Y,?_⟩
      dsimp only [eA,Ex.r,St.r,c_,n_,lh,lg,k9,kZ,kY,Hn.s];exact wo Y oA<|b_ Y (fQ _)
   exact wr Y<|mS<|wy Y ai<|wo Y (aA ao Y)<|wg 1 Y<|ei<|wo Y (az (cq _ _))<|b_ Y (mJ v [] rfl _)
 have Hl:∀(aa V:List Vr),c.vars=V++aa->∀w,Rn F X 57 1 ([.sl (c.vars.map Vr.s),jD c.vars.length,jD V.length]++gi f w++[.str c.name,.sl (ca c.aT)]) (fun o=>∃w',o=gi f w'):=by
  intro aa
  induction aa with
  |nil=>
   intro V hp w;rw[xj] at hp;have hp':V.length=c.vars.length:=by rw[hp]
   exact wr Y<|mS<|wn Y ai<|wo Y (az (xm _))<|b_ Y (lF c.aT [] rfl _)
  |cons v aa ih=>
   intro V hp w;have aD:=bG hp;have ao:=cA (f:=Vr.s) hp;have mW:=DB (g:=Vr.s) hp;have pR:=cq Vr.s c.vars;obtain⟨q1,q2,q3⟩:=vNd V aa v hp;have c1:=yt (X:=X) (l:=V) a0B v.name;rw[q1] at c1;have c1:Rn F X 47 0 [.sl (V.map Vr.s),.str v.name] (·=[.str [],bD 0,iD 0,.bool false]):=c1;have c2:=GA (X:=X) CK v.name;rw[q2] at c2;have next:=ih (V++[v]) (by rw[hp,bw]);rw[xa] at next;obtain⟨v1,v2,v3⟩:=v;simp only at c1 c2 q3;refine wr Y<|mS<|wy Y ai<|wo Y (aA ao Y)<|wg 1 Y<|hZ<|wo Y (dH a0F)<|wo Y (dH a0F)<|wo Y (dH a0F)<|wl Y (NL _ _) rfl<|MW ?_
   (refine e_ Y (nw (by rw[pR];omega)) rfl ?_;rw[mW])
   refine wl Y c1 Y<|wl Y c2 Y<|wl Y (u _ _ _) rfl ?_;dsimp only [eA,Ex.r,St.r,c_,n_,lh,lg,k9,kZ,kY,Vr.s];exact wo Y oA<|b_ Y (next _)
 have ao:(f.comps.map Cm.s)[i]? =some (Cm.s c):=by rw[xx,hi];rfl
 have pR:=cq Cm.s f.comps;have mW:(f.comps.map Cm.s).take i=(f.comps.take i).map Cm.s:=by rw[List.map_take]
 have c1:=Jr (X:=X) (l:=f.comps.take i) (by rw[xz];omega) c.name;have q1:zz (f.comps.take i) c.name=none:=List.find?_eq_none.2 (fun x hx=>by
  obtain⟨j,hj⟩:=qI hx;have fV:=iR hj;rw[xz] at fV;rw[List.getElem?_take_of_lt a0B] at hj;rw[(hf.comps j x hj).name,cn];intro e;have e:[(97+j).toUInt8]=[(97+i).toUInt8]:=by simpa using e
  have:=DI a0B a0B e;omega)
 rw[q1] at c1;have c1:Rn F X 49 0 [.sl ((f.comps.take i).map Cm.s),.str c.name] (·=[.str [],.sl [],.sl [],.bool false]):=c1;have c2:=GA (X:=X) CK c.name;rw[PX I4 (fun j hj e=>bi5 (by rw[cn] at e;exact e.symm))] at c2;have xl:=fun w=>Hl c.vars [] rfl w
 obtain⟨k1,k2,k3⟩:=c;simp only at c1 c2 cnl;refine wr Y<|wo Y (aA ao Y)<|wg 1 Y<|mS<|wo Y (dH a0F)<|wl Y (NL _ _) rfl ?_
 (refine e_ Y (nw (by rw[pR];omega)) rfl ?_;rw[mW])
 exact wl Y c1 Y<|oR<|wl Y c2 Y<|wl Y (u _ _ _) rfl<|wo Y (az (cq _ _))<|b_ Y (xl _)
theorem av1(hX:m8 X)(hI:yr X)(hf:gZ ar f):Rn F X 58 0 f.s (·=[.str [],.str [],iD 0,iD 0]):=by
 have c0:=Pm hX hf.ok;have c1:=fun w=>aQ1 (X:=X) (w:=w) hf
 have c2:=fun w=>aO3 (X:=X) (w:=w) hf
 have hn:=hf.n;have loop:∀(k i:Nat),i+k=f.comps.length->∀w,Rn F X 58 1 ([jD f.comps.length,jD i]++gi f w) (·=[.str [],.str [],iD 0,iD 0]):=by
  intro k
  induction k with
  |zero=>
   intro i hi w;exact wr Y<|oq<|wn Y ai<|wt Y Y
  |succ k ih=>
   intro i hi w;have ov:i<f.comps.length:=a0B
   have c3:=aR2 (X:=X) (w:=w) hI hf (xc ov);have next:=ih (i+1) a0B;refine wr Y<|oq<|wy Y ai<|wg 1 Y<|wx Y c3 fun|_,⟨w3,rfl⟩=>⟨Y,?_⟩
   exact Fe<|wo Y oA<|b_ Y (next _)
 have lp:=fun w=>loop f.comps.length 0 a0B w
 have r:=fun w n=>Oy (X:=X) f w n
 have c0:Rn F X 41 0 [.str f.name,.sl (f.flags.map Fg.d),.sl (f.links.map Lk.d),.sl (f.comps.map Cm.s)] (·=[iD 0]):=c0;show Rn F X 58 0 [.str f.name,.sl (f.flags.map Fg.d),.sl (f.links.map Lk.d),.sl (f.comps.map Cm.s)] _;refine wr Y<|wl Y c0 Y<|wl Y (r _ _) rfl<|wg 1 Y<|wx Y (c1 _) fun|_,⟨w1,rfl⟩=>⟨Y,?_⟩
 refine kj<|wg 1 Y<|wx Y (c2 _) fun|_,⟨w2,rfl⟩=>⟨Y,?_⟩
 exact pH<|wo Y (az (cq _ _))<|b_ Y (lp _)
end
section
theorem Gx(c k:Nat):(aP c k).length=k:=by simp[aP]
theorem aG1{nf own:Nat}(hc:jm nf ar own c)(aQ:ar[own]? =some al)(dQ:al.length<=3):Rn F X 70 0 [.str c.name,.sl (c.vars.map Vr.s),.sl (ca c.aT)] (·=[.sl (strs (aP 104 al.length))]):=by
 obtain⟨ints,tables,NM,i1,i3,t1,zP,LC,mq,dK,⟨l0,jO,bF9⟩,bI⟩:=hc.rest;rw[aQ] at zP;cases zP;have lF:∀(aa V:a0y),c.aT=V++aa->∀m,m<=al.length->(∀l∈V,l.length<=m)->Rn F X 70 1 [.sl (strs (aP 104 m)),.sl (ca c.aT),jD c.aT.length,jD V.length] (·=[.sl (strs (aP 104 al.length))]):=by
  intro aa
  induction aa with
  |nil=>
   intro V hp m hm aK;rw[xj] at hp;have hp':V.length=c.aT.length:=by rw[hp]
   have:al.length<=m:=by rw[<-bF9];exact aK l0 (by rw[<-hp];exact jO)
   obtain rfl:m=al.length:=a0B
   exact wr Y<|wn Y ai<|wt Y Y
  |cons v aa ih=>
   intro V hp m hm aK;have aD:=bG hp;have ao:(ca c.aT)[V.length]? =some [.sl (v.map Hn.s)]:=cA (f:=fun l:List Hn=>[D.sl (l.map Hn.s)]) hp;have hv:=bI v (by rw[hp];simp);have next:=ih (V++[v]) (by rw[hp,bw]);rw[xa] at next;have mJ:∀(ee bt:List Hn),v=bt++ee->∀m,m<=al.length->(∀l∈V,l.length<=m)->bt.length<=m->Rn F X 70 2 [.sl (strs (aP 104 m)),.sl (ca c.aT),jD c.aT.length,jD V.length,.sl (v.map Hn.s),jD v.length,jD bt.length] (·=[.sl (strs (aP 104 al.length))]):=by
    intro ee
    induction ee with
    |nil=>
     intro bt bH m hm aK h3;rw[xj] at bH;subst bH;have next:=next m hm (fun l hl=>by rcases xF.1 hl with hl|hl;exact aK l hl;rw[xy] at hl;subst hl;exact h3);exact wr Y<|wn Y ai<|wo Y oA<|wj next
    |cons h ee mV=>
     intro bt bH m hm aK h3;have ww:=bG bH;have gW:=cA (f:=Hn.s) bH;have ho:=(hv.2.2 bt.length h (v7 bH)).name;have fQ:=mV (bt++[h]) (by rw[bH,bw]);rw[xa] at fQ;obtain⟨h1,h2,Av⟩:=h;simp only at ho;generalize hk:bt.length=k at*;subst ho;have FC:k<al.length:=a0B
     rcases Nat.lt_or_ge k m with bk|iL
     ·have nx:=fQ m hm aK (by show k+1<=m;omega);have:(m=1/\k=0)\/(m=2/\k=0)\/(m=2/\k=1)\/(m=3/\k=0)\/(m=3/\k=1)\/(m=3/\k=2):=a0B
      rcases this with⟨rfl,rfl⟩|⟨rfl,rfl⟩|⟨rfl,rfl⟩|⟨rfl,rfl⟩|⟨rfl,rfl⟩|⟨rfl,rfl⟩
      ·exact wr Y<|wy Y ai<|wo Y (aA gW Y)<|wg 1 Y<|dC<|wo Y bf<|wg 4 Y<|wo Y oI<|wj nx
      ·exact wr Y<|wy Y ai<|wo Y (aA gW Y)<|wg 1 Y<|dC<|wo Y bf<|wg 4 Y<|wo Y oI<|wj nx
      ·exact wr Y<|wy Y ai<|wo Y (aA gW Y)<|wg 1 Y<|dC<|wo Y bf<|wg 8 Y<|wo Y oI<|ei<|wj nx
      ·exact wr Y<|wy Y ai<|wo Y (aA gW Y)<|wg 1 Y<|dC<|wo Y bf<|wg 4 Y<|wo Y oI<|wj nx
      ·exact wr Y<|wy Y ai<|wo Y (aA gW Y)<|wg 1 Y<|dC<|wo Y bf<|wg 8 Y<|wo Y oI<|ei<|wj nx
      ·exact wr Y<|wy Y ai<|wo Y (aA gW Y)<|wg 1 Y<|dC<|wo Y bf<|wg 11 Y<|ei<|wg 1 Y<|wo Y oI<|wj nx
     ·obtain rfl:k=m:=a0B
      have nx:=fQ (k+1) a0B (fun l hl=>xH (aK l hl) a0B) (by show k+1<=k+1;omega);have:k=0\/k=1\/k=2:=a0B
      rcases this with rfl|rfl|rfl
      ·exact wr Y<|wy Y ai<|wo Y (aA gW Y)<|wg 1 Y<|dC<|wo Y bf<|wg 4 Y<|wo Y oI<|ei<|wj nx
      ·exact wr Y<|wy Y ai<|wo Y (aA gW Y)<|wg 1 Y<|dC<|wo Y bf<|wg 8 Y<|ei<|wo Y oI<|wj nx
      ·exact wr Y<|wy Y ai<|wo Y (aA gW Y)<|wg 1 Y<|dC<|wo Y bf<|wg 11 Y<|ei<|wg 1 Y<|wo Y oI<|wj nx
   exact wr Y<|wy Y ai<|wo Y (aA ao Y)<|wg 1 Y<|w6<|wo Y (az (cq _ _))<|b_ Y (mJ v [] rfl m hm aK a0C)
 exact wr Y<|wo Y (az (xm _))<|b_ Y (lF c.aT [] rfl 0 a0B (fun l h=>by cases h))
def rZ(L:Nat)(r:a0d):Prop:=∃(op:Nat) (a b n:Int),r=[bD op,.int .i64 a,.int .i64 b,.int .i64 n]/\op<=34/\(op=27\/op=28->0<=a/\a<=L)/\(op=32\/op=33->0<=b/\b<=L)/\0<=n/\n<=8
def gL(code:a0b):Prop:=∀r∈code,rZ code.length r
theorem rZ.mono{L L':Nat}(h:L<=L')(hr:rZ L r):rZ L' r:=by
 obtain⟨op,a,b,n,e,h1,h2,h3,h4,h5⟩:=hr;exact⟨op,a,b,n,e,h1,fun q=>⟨(h2 q).1,by have:=(h2 q).2;omega⟩,fun q=>⟨(h3 q).1,by have:=(h3 q).2;omega⟩,h4,h5⟩
theorem gL.snoc(h:gL code)(hr:rZ code.length r):gL (code++[r]):=fun x hx=>by
 rw[xa];rcases xF.1 hx with hx|hx
 ·exact(h x hx).mono a0C
 ·rw[xy] at hx;subst hx;exact hr.mono a0C
theorem gL.Sf(h:gL code){i:Nat}{v:Int}(hi:code[i]? =some r)(h0:0<=v)(h1:v<=code.length):gL (code.set i (r.take 1++[.int .i64 v]++r.drop 2)):=fun x hx=>by
 rw[xt];rcases List.mem_or_eq_of_mem_set hx with hx|hx
 ·exact h x hx
 ·obtain⟨op,a,b,n,e,q1,q2,q3,q4⟩:=h r (xu hi);subst e;subst hx;exact⟨op,v,b,n,rfl,q1,fun _=>⟨h0,h1⟩,q3,q4⟩
theorem gL.ah5(h:gL code){i:Nat}{v:Int}(hi:code[i]? =some r)(h0:0<=v)(h1:v<=code.length):gL (code.set i (r.take 2++[.int .i64 v]++r.drop 3)):=fun x hx=>by
 rw[xt];rcases List.mem_or_eq_of_mem_set hx with hx|hx
 ·exact h x hx
 ·obtain⟨op,a,b,n,e,q1,q2,q3,q4⟩:=h r (xu hi);subst e;subst hx;exact⟨op,a,v,n,rfl,q1,q2,fun _=>⟨h0,h1⟩,q4⟩
theorem PG(h:gL code){i:Nat}(hi:i<code.length){v:Int}:∃r,code[i]? =some r/\aL (.ky 1) [.sl code,jD i,.int .i64 v]=some (.sl (code.set i (r.take 1++[.int .i64 v]++r.drop 2))):=by
 obtain⟨op,a,b,n,e,_⟩:=h code[i] (List.getElem_mem hi);refine⟨code[i],xc hi,?_⟩;show(code[i]?).bind _=_;rw[xc hi,e];rfl
theorem Yj(h:gL code){i:Nat}(hi:i<code.length){v:Int}:∃r,code[i]? =some r/\aL (.ky 2) [.sl code,jD i,.int .i64 v]=some (.sl (code.set i (r.take 2++[.int .i64 v]++r.drop 3))):=by
 obtain⟨op,a,b,n,e,_⟩:=h code[i] (List.getElem_mem hi);refine⟨code[i],xc hi,?_⟩;show(code[i]?).bind _=_;rw[xc hi,e];rfl
structure Cp where
 f:dg
 hs:List (List aq)
 own:Nat
 vars:a0s
 tables:a0s
 flags:a0s
 params:a0s
abbrev il(p:Cp)(code:a0b):a0d:=[.str p.f.name,.sl (p.f.flags.map Fg.d),.sl (p.f.links.map Lk.d),.sl (p.f.comps.map Cm.s),.sl (p.hs.map fun l=>[.sl (strs l)]),jD p.own,.sl (strs p.vars),.sl (strs p.tables),.sl (strs p.flags),.sl (strs p.params),.sl code]
structure Cp.Ok (p:Cp):Prop where
 v:p.vars.length<=1000
 t:p.tables.length<=1000
 f:p.flags.length<=1000
 p:p.params.length<=1000
def pW(p:Cp)(code:a0b)(m:Nat)(o:a0d):Prop:=∃fL,o=il p fL/\gL fL/\code.length<=fL.length/\fL.length<=code.length+m
theorem bB4{L op:Nat}{a b n:Int}(h1:op<=34)(h2:op≠27/\op≠28/\op≠32/\op≠33)(h3:0<=n)(h4:n<=8):rZ L [bD op,.int .i64 a,.int .i64 b,.int .i64 n]:=⟨op,a,b,n,rfl,h1,fun h=>a0B,fun h=>a0B,h3,h4⟩
end
end Go.Proofs.YthicpeihkkokmaaGreatDoor
