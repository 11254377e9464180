/- What these functions answer. -/
import Derived.Test.YtaginlnifpbfgaaGreatDoorP3
set_option linter.unusedVariables false
set_option linter.unusedSimpArgs false
set_option maxHeartbeats 4000000
set_option maxRecDepth 100000
namespace Go.Proofs.YtaginlnifpbfgaaGreatDoor
open Go.Ex Go.RowKit Go.Fl
section
variable{X:Nat→List D→Option (List D)}
theorem C8{c c' k n:Nat}(h1:c<200)(h2:c'<200)(h3:k<200)(h4:n≤100)(h:c≠c'):nm c k∉bl c' n:=fun hm=>by
 obtain⟨j,hj,e⟩:=xJ.1 hm;have:=List.mem_range.1 hj;exact h (u5 h2 h1 (by omega) h3 e).1.symm
theorem YH{c k n:Nat}(h:k<n):nm c k∈bl c n:=xJ.2 ⟨k,List.mem_range.2 h,rfl⟩
theorem P7{n t k:Nat}(hn:n≤3)(ht:t≤1)(hk:k<n):qQ (bY n t) (nm 120 k)=some ⟨nm 120 k,1,k⟩:=by
 have a:n=1∨n=2∨n=3:=by omega
 have b:t=0∨t=1:=by omega
 have c:k=0∨k=1∨k=2:=by omega
 rcases a with rfl|rfl|rfl<;>rcases b with rfl|rfl<;>rcases c with rfl|rfl|rfl<;>first|rfl|omega
theorem P9{n t:Nat}(hn:n≤3)(ht:t≤1):qQ (bY n t) (nm 98 0)=some ⟨nm 98 0,2,0⟩:=by
 have a:n=0∨n=1∨n=2∨n=3:=by omega
 have b:t=0∨t=1:=by omega
 rcases a with rfl|rfl|rfl|rfl<;>rcases b with rfl|rfl<;>rfl
theorem P8{n t:Nat}(hn:n≤3)(ht:t≤1)(h:0<t):qQ (bY n t) (nm 116 0)=some ⟨nm 116 0,3,0⟩:=by
 have a:n=0∨n=1∨n=2∨n=3:=by omega
 obtain rfl:t=1:=by omega
 rcases a with rfl|rfl|rfl|rfl<;>rfl
theorem UN{n t:Nat}{v:Vr}(h:v∈bY n t):∃c k,v.name=nm c k∧(c=120∧k<n∨c=98∧k=0∨c=116∧k<t):=by
 rcases xF.1 h with h|h
 ·obtain⟨j,hj,rfl⟩:=xJ.1 h;exact⟨120,j,rfl,.inl ⟨rfl,List.mem_range.1 hj⟩⟩
 ·rcases xG.1 h with rfl|h
  ·exact⟨98,0,rfl,.inr (.inl ⟨rfl,rfl⟩)⟩
  ·obtain⟨j,hj,rfl⟩:=xJ.1 h;exact⟨116,j,rfl,.inr (.inr ⟨rfl,List.mem_range.1 hj⟩)⟩
theorem W2{n t c k:Nat}(hn:n≤3)(ht:t≤1)(hc:c<200)(hk:k<200)(h:c≠120∧c≠98∧c≠116):qQ (bY n t) (nm c k)=none:=by
 refine List.find?_eq_none.2 (fun v hv=> ?_);obtain⟨c',k',e,h'⟩:=UN hv;rw[e];intro he;have he:nm c' k'=nm c k:=by simpa using he
 have:=u5 (by omega) hc (by omega) hk he;omega
theorem NS(n t:Nat):(bY n t).length=n+1+t:=by simp[bY,tM];omega
def Fa(fl:List Fg)(n:Nat):Prop:=fl.length=n∧∀k x,fl[k]? =some x→x.name=nm 102 k
theorem aX8{fl:List Fg}{n k:Nat}(h:Fa fl n)(hk:k<n):vz fl (nm 102 k)=true:=by
 have bW:k<fl.length:=by rw[h.1];exact hk
 exact List.any_eq_true.2 ⟨fl[k],List.getElem_mem bW,by rw[h.2 k _ (xc bW)];simp⟩
theorem Pn{fl:List Fg}{n:Nat}{s:aH}(h:Fa fl n)(hs:∀k,k<n→nm 102 k≠s):vz fl s=false:=by
 refine List.any_eq_false.2 (fun x hx=> ?_);obtain⟨i,hi⟩:=tI hx;have:=jW hi;rw[h.2 i x hi];simpa using hs i (by rw[←h.1];exact this)
abbrev nq(fl:List Fg)(vs:List Vr)(ps:List aH):List D:=[.sl (fl.map Fg.d),.sl (vs.map Vr.s),.sl (strs ps)]
variable{fl:List Fg}{ints tables flags params:Nat}
section
variable(hi:ints≤3)(ht:tables≤1)(hf:Fa fl flags)(bE:flags≤2)(hp:params≤2)
include hi ht hf bE hp
theorem zX:fl.length≤1000∧(bY ints tables).length≤1000∧(bl 112 params).length≤1000:=by
 have:=NS ints tables;have:=hf.1;have:(bl 112 params).length=params:=by simp[bl]
 omega
theorem bn9{k:Nat}(hk:k<params):Rn F X 60 0 (nq fl (bY ints tables) (bl 112 params)++[.str (nm 112 k)]) (·=[bD 1,iD 0]):=by
 obtain⟨l1,l2,l3⟩:=zX hi ht hf bE hp;have c1:=yR (X:=X) l3 (nm 112 k);rw[decide_eq_true (YH hk)] at c1;exact wr rfl<|wl rfl c1 rfl<|wt rfl rfl
theorem bn8{k:Nat}(hk:k<ints):Rn F X 60 0 (nq fl (bY ints tables) (bl 112 params)++[.str (nm 120 k)]) (·=[bD 1,iD 0]):=by
 obtain⟨l1,l2,l3⟩:=zX hi ht hf bE hp;have c1:=yR (X:=X) l3 (nm 120 k);rw[decide_eq_false (C8 (by omega) (by omega) (by omega) (by omega) (by omega))] at c1;have c2:=yP (X:=X) l2 (nm 120 k);rw[P7 hi ht hk] at c2;exact wr rfl<|wl rfl c1 rfl<|wl rfl c2 rfl<|w9<|wg 1 rfl<|wt rfl rfl
theorem bo1:Rn F X 60 0 (nq fl (bY ints tables) (bl 112 params)++[.str (nm 98 0)]) (·=[bD 2,iD 0]):=by
 obtain⟨l1,l2,l3⟩:=zX hi ht hf bE hp;have c1:=yR (X:=X) l3 (nm 98 0);rw[decide_eq_false (C8 (by omega) (by omega) (by omega) (by omega) (by omega))] at c1;have c2:=yP (X:=X) l2 (nm 98 0);rw[P9 hi ht] at c2;exact wr rfl<|wl rfl c1 rfl<|wl rfl c2 rfl<|w9<|wg 1 rfl<|wt rfl rfl
theorem bo0{k:Nat}(hk:k<flags):Rn F X 60 0 (nq fl (bY ints tables) (bl 112 params)++[.str (nm 102 k)]) (·=[bD 2,iD 0]):=by
 obtain⟨l1,l2,l3⟩:=zX hi ht hf bE hp;have c1:=yR (X:=X) l3 (nm 102 k);rw[decide_eq_false (C8 (by omega) (by omega) (by omega) (by omega) (by omega))] at c1;have c2:=yP (X:=X) l2 (nm 102 k);rw[W2 hi ht (by omega) (by omega) (by omega)] at c2;have c3:=Gp (X:=X) l1 (nm 102 k);rw[aX8 hf hk] at c3;exact wr rfl<|wl rfl c1 rfl<|wl rfl c2 rfl<|w9<|wl rfl c3 rfl<|wt rfl rfl
theorem bC5{k:Nat}(hk:k<ints):Rn F X 59 0 (nq fl (bY ints tables) (bl 112 params)++[.str (nm 120 k)]) (·=DG (qQ (bY ints tables) (nm 120 k))):=by
 obtain⟨l1,l2,l3⟩:=zX hi ht hf bE hp;have c1:=yR (X:=X) l3 (nm 120 k);rw[decide_eq_false (C8 (by omega) (by omega) (by omega) (by omega) (by omega))] at c1;have c2:=yP (X:=X) l2 (nm 120 k);rw[P7 hi ht hk] at c2⊢;exact wr rfl<|wl rfl c1 rfl<|wl rfl c2 rfl<|w9<|wt rfl rfl
theorem bC6:Rn F X 59 0 (nq fl (bY ints tables) (bl 112 params)++[.str (nm 98 0)]) (·=DG (qQ (bY ints tables) (nm 98 0))):=by
 obtain⟨l1,l2,l3⟩:=zX hi ht hf bE hp;have c1:=yR (X:=X) l3 (nm 98 0);rw[decide_eq_false (C8 (by omega) (by omega) (by omega) (by omega) (by omega))] at c1;have c2:=yP (X:=X) l2 (nm 98 0);rw[P9 hi ht] at c2⊢;exact wr rfl<|wl rfl c1 rfl<|wl rfl c2 rfl<|w9<|wt rfl rfl
theorem XW(h:0<tables):Rn F X 59 0 (nq fl (bY ints tables) (bl 112 params)++[.str (nm 116 0)]) (·=DG (qQ (bY ints tables) (nm 116 0))):=by
 obtain⟨l1,l2,l3⟩:=zX hi ht hf bE hp;have c1:=yR (X:=X) l3 (nm 116 0);rw[decide_eq_false (C8 (by omega) (by omega) (by omega) (by omega) (by omega))] at c1;have c2:=yP (X:=X) l2 (nm 116 0);rw[P8 hi ht h] at c2⊢;exact wr rfl<|wl rfl c1 rfl<|wl rfl c2 rfl<|w9<|wt rfl rfl
theorem Oz(h:0<tables):Rn F X 61 0 (nq fl (bY ints tables) (bl 112 params)++[.str (nm 116 0)]) (·=[iD 0]):=by
 have c2:=XW (X:=X) hi ht hf bE hp h;rw[P8 hi ht h] at c2;exact wr rfl<|wl rfl c2 rfl<|w8<|wg 1 rfl<|wt rfl rfl
omit hi ht hf bE hp in
theorem A7{vs:List Vr}{ps:List aH}(t:Nat)(n:aH):Rn F X 62 0 (nq fl vs ps++[bD t,.str n,iD 0]) (·=[bD t,.str [],iD 0]):=by
 exact wr rfl<|wg 1 rfl<|wt rfl rfl
omit hi ht hf bE hp in
theorem po{vs:List Vr}{ps:List aH}{l:List Fl.Ex}{t:Nat}(hl:l.length≤2)(h:∀e∈l,Rn F X 63 0 (nq fl vs ps++Ex.s e) (·=[bD t,.str [],iD 0])):Rn F X 64 0 (nq fl vs ps++[.sl (Ex.ss l)]) (·=[bD (if l=[] then 0 else t),.str [],iD 0]):=by
 have loop:∀(ae pre:List Fl.Ex),l=pre++ae→Rn F X 64 1 ([bD (if pre=[] then 0 else t),.sl (Ex.ss l),jD l.length,jD pre.length]++nq fl vs ps) (·=[bD (if l=[] then 0 else t),.str [],iD 0]):=by
  intro ae
  induction ae with
  |nil=>
   intro pre hp;rw[xj] at hp;subst hp;exact wr rfl<|w7<|wn rfl ak<|wt rfl rfl
  |cons a ae ih=>
   intro pre hp;have aC:=bu hp;have ap:(Ex.ss l)[pre.length]? =some (Ex.s a):=by rw[hp];exact tH _ _ _
   have ha:=h a (by rw[hp];simp);have next:=ih (pre++[a]) (by rw[hp,bp]);rw[xa,if_neg (by simp)] at next;obtain⟨o1,n1,i1,a1⟩:=a;rcases pre with _|⟨b,pre⟩
   ·exact wr rfl<|w7<|wy rfl ak<|wo rfl (aB ap rfl)<|wg 1 rfl<|lH<|wl rfl ha rfl<|wg 2 rfl<|Wp.fR rfl ay rfl<|wo rfl oA<|wj next
   ·rw[if_neg (by simp)];exact wr rfl<|w7<|wy rfl ak<|wo rfl (aB ap rfl)<|wg 1 rfl<|lH<|wl rfl ha rfl<|wg 1 rfl<|Wp.iG rfl ay (by simp;omega)<|Wp.fR rfl ay rfl<|wo rfl oA<|wj next
 exact wr rfl<|wo rfl (aA (jC _))<|wj (loop l [] rfl)
theorem DP{d:Nat}{e:Fl.Ex}(h:fc ⟨ints,tables,flags,params⟩ d e):Rn F X 63 0 (nq fl (bY ints tables) (bl 112 params)++Ex.s e) (·=[bD 1,.str [],iD 0]):=by
 induction h with
 |num n h=>
  have c0:=po (X:=X) (fl:=fl) (vs:=bY ints tables) (ps:=bl 112 params) (l:=[]) (t:=0) (by simp) (fun e h=>by cases h);exact wr rfl<|w7<|wl rfl c0 rfl<|wg 2 rfl<|wt rfl rfl
 |var k h=>
  have c0:=po (X:=X) (fl:=fl) (vs:=bY ints tables) (ps:=bl 112 params) (l:=[]) (t:=0) (by simp) (fun e h=>by cases h);have c1:=bn8 (X:=X) hi ht hf bE hp h;have c2:=A7 (X:=X) (fl:=fl) (vs:=bY ints tables) (ps:=bl 112 params) 1 (nm 120 k);exact wr rfl<|w7<|wl rfl c0 rfl<|wg 6 rfl<|wl rfl c1 rfl<|wl rfl c2 rfl<|wt rfl rfl
 |mO k h=>
  have c0:=po (X:=X) (fl:=fl) (vs:=bY ints tables) (ps:=bl 112 params) (l:=[]) (t:=0) (by simp) (fun e h=>by cases h);have c1:=bn9 (X:=X) hi ht hf bE hp h;have c2:=A7 (X:=X) (fl:=fl) (vs:=bY ints tables) (ps:=bl 112 params) 1 (nm 112 k);exact wr rfl<|w7<|wl rfl c0 rfl<|wg 6 rfl<|wl rfl c1 rfl<|wl rfl c2 rfl<|wt rfl rfl
 |now=>
  have c0:=po (X:=X) (fl:=fl) (vs:=bY ints tables) (ps:=bl 112 params) (l:=[]) (t:=0) (by simp) (fun e h=>by cases h);exact wr rfl<|w7<|wl rfl c0 rfl<|wg 3 rfl<|wt rfl rfl
 | @get d h e he ih=>
  have c0:=po (X:=X) (fl:=fl) (vs:=bY ints tables) (ps:=bl 112 params) (l:=[e]) (t:=1) (by simp) (fun a h=>by rw[xy] at h;subst h;exact ih);have c1:=Oz (X:=X) hi ht hf bE hp h;have c2:=A7 (X:=X) (fl:=fl) (vs:=bY ints tables) (ps:=bl 112 params) 1 (nm 116 0);exact wr rfl<|w7<|wl rfl c0 rfl<|wg 19 rfl<|wl rfl c1 rfl<|wl rfl c2 rfl<|wt rfl rfl
 |size h=>
  have c0:=po (X:=X) (fl:=fl) (vs:=bY ints tables) (ps:=bl 112 params) (l:=[]) (t:=0) (by simp) (fun e h=>by cases h);have c1:=Oz (X:=X) hi ht hf bE hp h;have c2:=A7 (X:=X) (fl:=fl) (vs:=bY ints tables) (ps:=bl 112 params) 1 (nm 116 0);exact wr rfl<|w7<|wl rfl c0 rfl<|wg 7 rfl<|wl rfl c1 rfl<|wl rfl c2 rfl<|wt rfl rfl
 | @neg d e he ih=>
  have c0:=po (X:=X) (fl:=fl) (vs:=bY ints tables) (ps:=bl 112 params) (l:=[e]) (t:=1) (by simp) (fun a h=>by rw[xy] at h;subst h;exact ih);exact wr rfl<|w7<|wl rfl c0 rfl<|wg 20 rfl<|wt rfl rfl
 | @bin d op h1 h2 a b ha hb kQ eH=>
  have c0:=po (X:=X) (fl:=fl) (vs:=bY ints tables) (ps:=bl 112 params) (l:=[a,b]) (t:=1) (by simp) (fun a h=>by
   rcases xG.1 h with rfl|h
   ·exact kQ
   ·rw[xy] at h;subst h;exact eH)
  have:op=11∨op=12∨op=13∨op=14∨op=15:=by omega
  rcases this with rfl|rfl|rfl|rfl|rfl
  ·exact wr rfl<|w7<|wl rfl c0 rfl<|wg 20 rfl<|wt rfl rfl
  ·exact wr rfl<|w7<|wl rfl c0 rfl<|wg 20 rfl<|wt rfl rfl
  ·exact wr rfl<|w7<|wl rfl c0 rfl<|wg 20 rfl<|wt rfl rfl
  ·exact wr rfl<|w7<|wl rfl c0 rfl<|wg 20 rfl<|wt rfl rfl
  ·exact wr rfl<|w7<|wl rfl c0 rfl<|wg 20 rfl<|wt rfl rfl
theorem bC9{d:Nat}{e:Fl.Ex}(h:kJ ⟨ints,tables,flags,params⟩ d e):Rn F X 63 0 (nq fl (bY ints tables) (bl 112 params)++Ex.s e) (·=[bD 2,.str [],iD 0]):=by
 induction h with
 |lit op h1 h2=>
  have c0:=po (X:=X) (fl:=fl) (vs:=bY ints tables) (ps:=bl 112 params) (l:=[]) (t:=0) (by simp) (fun e h=>by cases h);have:op=2∨op=3:=by omega
  rcases this with rfl|rfl
  ·exact wr rfl<|w7<|wl rfl c0 rfl<|wg 4 rfl<|wt rfl rfl
  ·exact wr rfl<|w7<|wl rfl c0 rfl<|wg 5 rfl<|wt rfl rfl
 |b0=>
  have c0:=po (X:=X) (fl:=fl) (vs:=bY ints tables) (ps:=bl 112 params) (l:=[]) (t:=0) (by simp) (fun e h=>by cases h);have c1:=bo1 (X:=X) hi ht hf bE hp;have c2:=A7 (X:=X) (fl:=fl) (vs:=bY ints tables) (ps:=bl 112 params) 2 (nm 98 0);exact wr rfl<|w7<|wl rfl c0 rfl<|wg 6 rfl<|wl rfl c1 rfl<|wl rfl c2 rfl<|wt rfl rfl
 |flag k h=>
  have c0:=po (X:=X) (fl:=fl) (vs:=bY ints tables) (ps:=bl 112 params) (l:=[]) (t:=0) (by simp) (fun e h=>by cases h);have c1:=bo0 (X:=X) hi ht hf bE hp h;have c2:=A7 (X:=X) (fl:=fl) (vs:=bY ints tables) (ps:=bl 112 params) 2 (nm 102 k);exact wr rfl<|w7<|wl rfl c0 rfl<|wg 6 rfl<|wl rfl c1 rfl<|wl rfl c2 rfl<|wt rfl rfl
 | @has d h e he=>
  have c0:=po (X:=X) (fl:=fl) (vs:=bY ints tables) (ps:=bl 112 params) (l:=[e]) (t:=1) (by simp) (fun a h=>by rw[xy] at h;subst h;exact DP hi ht hf bE hp he);have c1:=Oz (X:=X) hi ht hf bE hp h;have c2:=A7 (X:=X) (fl:=fl) (vs:=bY ints tables) (ps:=bl 112 params) 2 (nm 116 0);exact wr rfl<|w7<|wl rfl c0 rfl<|wg 16 rfl<|wl rfl c1 rfl<|wl rfl c2 rfl<|wt rfl rfl
 | @not d e he ih=>
  have c0:=po (X:=X) (fl:=fl) (vs:=bY ints tables) (ps:=bl 112 params) (l:=[e]) (t:=2) (by simp) (fun a h=>by rw[xy] at h;subst h;exact ih);exact wr rfl<|w7<|wl rfl c0 rfl<|wg 13 rfl<|wt rfl rfl
 | @I8 d op h1 h2 a b ha hb kQ eH=>
  have c0:=po (X:=X) (fl:=fl) (vs:=bY ints tables) (ps:=bl 112 params) (l:=[a,b]) (t:=2) (by simp) (fun a h=>by
   rcases xG.1 h with rfl|h
   ·exact kQ
   ·rw[xy] at h;subst h;exact eH)
  have:op=22∨op=23:=by omega
  rcases this with rfl|rfl
  ·exact wr rfl<|w7<|wl rfl c0 rfl<|wg 14 rfl<|wt rfl rfl
  ·exact wr rfl<|w7<|wl rfl c0 rfl<|wg 15 rfl<|wt rfl rfl
 | @cmp d op h1 h2 a b ha hb=>
  have c0:=po (X:=X) (fl:=fl) (vs:=bY ints tables) (ps:=bl 112 params) (l:=[a,b]) (t:=1) (by simp) (fun a h=>by
   rcases xG.1 h with rfl|h
   ·exact DP hi ht hf bE hp ha
   ·rw[xy] at h;subst h;exact DP hi ht hf bE hp hb)
  have:op=16∨op=17∨op=18∨op=19∨op=20∨op=21:=by omega
  rcases this with rfl|rfl|rfl|rfl|rfl|rfl
  ·exact wr rfl<|w7<|wl rfl c0 rfl<|wg 11 rfl<|wt rfl rfl
  ·exact wr rfl<|w7<|wl rfl c0 rfl<|wg 12 rfl<|wt rfl rfl
  ·exact wr rfl<|w7<|wl rfl c0 rfl<|wg 17 rfl<|wt rfl rfl
  ·exact wr rfl<|w7<|wl rfl c0 rfl<|wg 18 rfl<|wt rfl rfl
  ·exact wr rfl<|w7<|wl rfl c0 rfl<|wg 19 rfl<|wt rfl rfl
  ·exact wr rfl<|w7<|wl rfl c0 rfl<|wg 20 rfl<|wt rfl rfl
end
end
end Go.Proofs.YtaginlnifpbfgaaGreatDoor
namespace Go.Fl
open Go.Ex
theorem iC.fg{ar:List (List Nat)}{f:bq}(h:iC ar f):Go.Proofs.YtaginlnifpbfgaaGreatDoor.Fa f.flags f.flags.length:=⟨rfl,h.flags.2⟩
theorem Gm{i j:Nat}(hi:i<100)(hj:j<100)(h:[(97+i).toUInt8]=[(97+j).toUInt8]):i=j:=by
 simp only [List.cons.injEq,and_true] at h;have e:=congrArg UInt8.toNat h;simp at e;omega
theorem iC.find{ar:List (List Nat)}{f:bq}(h:iC ar f){i:Nat}(hi:i<ar.length):∃c,f.comps[i]? =some c∧zV f.comps [(97+i).toUInt8]=some c:=by
 have hn:=h.n;have hi':i<f.comps.length:=by omega
 refine⟨f.comps[i],xc hi',?_⟩;unfold zV;cases hc:f.comps.find? (fun v=>v.name==[(97+i).toUInt8]) with
 |none=>
  have:=List.find?_eq_none.1 hc f.comps[i] (List.getElem_mem hi');rw[(h.comps i _ (xc hi')).name] at this;simp at this
 |some c=>
  have h1:=List.find?_some hc;obtain⟨j,hj⟩:=tI (List.mem_of_find?_eq_some hc);have lX:=jW hj;rw[(h.comps j c hj).name] at h1;have h1:[(97+j).toUInt8]=[(97+i).toUInt8]:=by simpa using h1
  obtain rfl:=Gm (by omega) (by omega) h1;rw[xc hi'] at hj;exact hj.symm
theorem hR.qg{nf i:Nat}{ar:List (List Nat)}{c:Cm}{al:List Nat}(hc:hR nf ar i c)(bt:ar[i]? =some al)(dN:al.length≤3){k n:Nat}(hk:al[k]? =some n):∃h,qg c.bx (nm 104 k)=some h∧h.params.length=n:=by
 obtain⟨ints,tables,NM,_,_,_,Ae,_,_,_,⟨l,hl,lW⟩,hv⟩:=hc.rest;rw[bt] at Ae;cases Ae;have hkl:=jW hk;unfold Fl.qg;cases hf:c.bx.flatten.find? (fun v=>v.name==nm 104 k) with
 |none=>
  have jy:k<l.length:=by omega
  have:=List.find?_eq_none.1 hf l[k] (List.mem_flatten.2 ⟨l,hl,List.getElem_mem jy⟩);rw[((hv l hl).2.2 k _ (xc jy)).name] at this;simp at this
 |some h=>
  have h1:=List.find?_some hf;obtain⟨l',ee,hm⟩:=List.mem_flatten.1 (List.mem_of_find?_eq_some hf);obtain⟨j,hj⟩:=tI hm;have lX:=jW hj;have bG:=hv l' ee;have ho:=bG.2.2 j h hj;rw[ho.name] at h1;have h1:nm 104 j=nm 104 k:=by simpa using h1
  obtain rfl:=(u5 (by omega) (by omega) (by omega) (by omega) h1).2;obtain⟨n',gY,hp,_⟩:=ho.mO;rw[hk] at gY;cases gY;exact⟨h,rfl,by rw[hp];simp[bl]⟩
end Go.Fl
namespace Go.Proofs.YtaginlnifpbfgaaGreatDoor
open Go.Ex Go.RowKit Go.Fl
section
variable{X:Nat→List D→Option (List D)}
abbrev v7(fl:List Fg)(vs:List Vr)(ps:List aH)(c:Cm)(pl:aH)(n:Nat)(f:bq)(w:aH):List D:=
 [.sl (fl.map Fg.d),.sl (vs.map Vr.s),.sl (strs ps),.str c.name,.sl (c.vars.map Vr.s),.sl (cL c.bx),.str pl,iD n,.str f.name,.sl (f.flags.map Fg.d),.sl (f.links.map Lk.d),.sl (f.comps.map Cm.s),.str w,.str [],.str [],iD 0]
variable{fl:List Fg}{vs:List Vr}{ps:List aH}{c:Cm}{pl:aH}{n:Nat}{f:bq}{w:aH}
theorem Oa{s:aH}{v:Vr}(h:Rn F X 59 0 (nq fl vs ps++[.str s]) (·=DG (some v))):Rn F X 65 0 (v7 fl vs ps c pl n f w++[.str s]) (·=bD v.type::v7 fl vs ps c pl n f w):=by
 have h:Rn F X 59 0 (nq fl vs ps++[.str s]) (·=[.str v.name,bD v.type,iD v.init,.bool true]):=h;exact wr rfl<|wl rfl h rfl<|wt rfl rfl
theorem Ql{l:List Fl.Ex}{t:Nat}(hl:l.length≤5)(h:∀e∈l,Rn F X 63 0 (nq fl vs ps++Ex.s e) (·=[bD t,.str [],iD 0])):Rn F X 66 0 (v7 fl vs ps c pl n f w++[bD t,.sl (Ex.ss l)]) (·=v7 fl vs ps c pl n f w):=by
 have loop:∀(ae pre:List Fl.Ex),l=pre++ae→Rn F X 66 1 ([bD t,.sl (Ex.ss l),jD l.length,jD pre.length]++v7 fl vs ps c pl n f w) (·=v7 fl vs ps c pl n f w):=by
  intro ae
  induction ae with
  |nil=>
   intro pre hp;rw[xj] at hp;subst hp;exact wr rfl<|lG<|wn rfl ak<|wt rfl rfl
  |cons a ae ih=>
   intro pre hp;have aC:=bu hp;have ap:(Ex.ss l)[pre.length]? =some (Ex.s a):=by rw[hp];exact tH _ _ _
   have ha:=h a (by rw[hp];simp);have next:=ih (pre++[a]) (by rw[hp,bp]);rw[xa] at next;obtain⟨o1,n1,i1,a1⟩:=a;exact wr rfl<|lG<|wy rfl ak<|wo rfl (aB ap rfl)<|wg 1 rfl<|yq<|wl rfl ha rfl<|wl rfl (Oj f w []) rfl<|Wp.fR rfl ay rfl<|wl rfl (yV f w [] 10) rfl<|wo rfl oA<|Ii<|wj next
 exact wr rfl<|wo rfl (aA (jC _))<|wj (loop l [] rfl)
theorem V9{x:Cm}{s:aH}{l:List Fl.Ex}{fst:Nat}{h:Hn}(hx:x.bx.length≤1000∧∀v∈x.bx,v.length≤1000)(hh:qg x.bx s=some h)(fV:h.params.length≤5)(aC:l.length=fst+h.params.length)(hl:l.length≤5)(ha:∀e∈l,Rn F X 63 0 (nq fl vs ps++Ex.s e) (·=[bD 1,.str [],iD 0])):
 Rn F X 67 0 (v7 fl vs ps c pl n f w++[.str x.name,.sl (x.vars.map Vr.s),.sl (cL x.bx),.str s,.sl (Ex.ss l),iD fst]) (·=v7 fl vs ps c pl n f w):=by
 have c1:=N6 (X:=X) hx.1 hx.2 s;rw[hh] at c1;have c1:Rn F X 48 0 [.sl (cL x.bx),.str s] (·=[.str h.name,.sl (strs h.params),.sl (St.ss h.body),.bool true]):=c1;have c2:=Ql (X:=X) (c:=c) (pl:=pl) (n:=n) (f:=f) (w:=w) hl ha;have hss:=jC l;have fp:(strs h.params).length=h.params.length:=xm _;refine wr rfl<|wl rfl c1 rfl<|wl rfl (yV f w _ _) rfl<|wo rfl (aA (jC _))<|jL<|wo rfl (Dx (by omega) (by omega))<|wo rfl (aA fp)<|wy rfl ay<|wl rfl (yV f w _ _) rfl<|wl rfl c2 rfl ?_;dsimp only [dU,Ex.r,St.r,List.cons_append,List.nil_append,df,de,iT,kr,kq];exact wt rfl rfl
end
structure yO (X:Nat→List D→Option (List D)):Prop where
 L3:∀n,n≤12→∃s:aH,s.length≤3∧Rn F X 111 0 [iD n] (·=[.str s])
structure At (ar:List (List Nat)) (f:bq) (own:Nat) (c:Cm) (ints tables params:Nat) (al:List Nat):Prop where
 fl:iC ar f
 jJ:f.comps[own]? =some c
 bt:ar[own]? =some al
 vars:c.vars=bY ints tables
 i:ints≤3
 t:tables≤1
 p:params≤2
section
variable{X:Nat→List D→Option (List D)}{ar:List (List Nat)}{f:bq}{own:Nat}{c:Cm}{ints tables params n:Nat}{al:List Nat}{pl w:aH}
theorem hR.small{nf i:Nat}{ar:List (List Nat)}{c:Cm}(cP:∀l∈ar,1≤l.length∧l.length≤3∧∀n∈l,n≤2)(hc:hR nf ar i c):c.bx.length≤1000∧∀v∈c.bx,v.length≤1000:=by
 obtain⟨ints,tables,al,_,_,_,bt,_,_,h2,_,hv⟩:=hc.rest;have:=(cP al (xu bt)).2.1;exact⟨by omega,fun v h=>by have:=(hv v h).2.1;omega⟩
abbrev nn(f:bq)(ints tables params:Nat)(c:Cm)(pl:aH)(n:Nat)(w:aH):List D:=v7 f.flags (bY ints tables) (bl 112 params) c pl n f w
theorem aG3(ha:At ar f own c ints tables params al){B:List St→Prop}{s:St}(hs:mL ⟨⟨ints,tables,f.flags.length,params⟩,ar,own⟩ B s):Rn F X 68 0 (nn f ints tables params c pl n w++St.s s) (·=nn f ints tables params c pl n w):=by
 have hi:=ha.i;have ht:=ha.t;have hp:=ha.p;have hf:Fa f.flags f.flags.length:=ha.fl.fg;have bE:=ha.fl.flags.1;have cP:=ha.fl.v8;have u:=fun e m=>yV (X:=X) f w m e
 have A1:∀l:List Fl.Ex,l.length≤5→(∀e∈l,fc ⟨ints,tables,f.flags.length,params⟩ 3 e)→Rn F X 66 0 (nn f ints tables params c pl n w++[bD 1,.sl (Ex.ss l)]) (·=nn f ints tables params c pl n w):=fun l h1 h2=>Ql h1 (fun e he=>DP hi ht hf bE hp (h2 e he))
 have A2:∀{e:Fl.Ex},kJ ⟨ints,tables,f.flags.length,params⟩ 5 e→Rn F X 66 0 (nn f ints tables params c pl n w++[bD 2,.sl (Ex.ss [e])]) (·=nn f ints tables params c pl n w):=fun he=>Ql (by simp) (fun e h=>by rw[xy] at h;subst h;exact bC9 hi ht hf bE hp he)
 have V1:∀k,k<ints→Rn F X 65 0 (nn f ints tables params c pl n w++[.str (nm 120 k)]) (·=bD 1::nn f ints tables params c pl n w):=fun k hk=>Oa (v:=⟨nm 120 k,1,k⟩) (by have:=bC5 (X:=X) hi ht hf bE hp hk;rw[P7 hi ht hk] at this;exact this)
 have V2:Rn F X 65 0 (nn f ints tables params c pl n w++[.str (nm 98 0)]) (·=bD 2::nn f ints tables params c pl n w):=Oa (v:=⟨nm 98 0,2,0⟩) (by have:=bC6 (X:=X) hi ht hf bE hp;rw[P9 hi ht] at this;exact this);have V3:0<tables→Rn F X 65 0 (nn f ints tables params c pl n w++[.str (nm 116 0)]) (·=bD 3::nn f ints tables params c pl n w):=fun h=>Oa (v:=⟨nm 116 0,3,0⟩) (by have:=XW (X:=X) hi ht hf bE hp h;rw[P8 hi ht h] at this;exact this)
 cases hs with
 | @nP k h e he=>
  have c1:=V1 k h;have c2:=A1 [e] (by simp) (vr he);refine wr rfl<|js<|wg 1 rfl<|wl rfl c1 rfl<|wg 1 rfl<|wl rfl c2 rfl ?_;dsimp only [dU,Ex.r,St.r,List.cons_append,List.nil_append,df,de,iT,kr,kq,St.s];exact wt rfl rfl
 | @EA e he=>
  have c1:=V2;have c2:=A2 he;refine wr rfl<|js<|wg 1 rfl<|wl rfl c1 rfl<|wg 2 rfl<|wl rfl c2 rfl ?_;dsimp only [dU,Ex.r,St.r,List.cons_append,List.nil_append,df,de,iT,kr,kq,St.s];exact wt rfl rfl
 | @put h a b ha hb=>
  have c1:=V3 h;have c2:=A1 [a,b] (by simp) (LR ha hb);refine wr rfl<|js<|wg 2 rfl<|wl rfl c1 rfl<|wg 1 rfl<|wl rfl (u _ _) rfl<|wl rfl c2 rfl ?_;dsimp only [dU,Ex.r,St.r,List.cons_append,List.nil_append,df,de,iT,kr,kq,St.s];exact wt rfl rfl
 | @del h a ha=>
  have c1:=V3 h;have c2:=A1 [a] (by simp) (vr ha);refine wr rfl<|js<|wg 3 rfl<|wl rfl c1 rfl<|wg 1 rfl<|wl rfl (u _ _) rfl<|wl rfl c2 rfl ?_;dsimp only [dU,Ex.r,St.r,List.cons_append,List.nil_append,df,de,iT,kr,kq,St.s];exact wt rfl rfl
 | @cond e he th el h1 h2=>
  have c2:=A2 he;exact wr rfl<|js<|wg 5 rfl<|wl rfl c2 rfl<|Fb<|wt rfl rfl
 | @HJ e he th h1=>
  have c2:=A2 he;exact wr rfl<|js<|wg 6 rfl<|wl rfl c2 rfl<|Fb<|wt rfl rfl
 | @send i h m l hi' hh es he hn=>
  obtain⟨x,nv,hx⟩:=ha.fl.find (jW hi');have Ix:=ha.fl.comps i x nv;have dN:=(cP l (xu hi')).2.1;have eV:=(cP l (xu hi')).2.2 m (xu hh);obtain⟨hd,qC,io⟩:=Ix.qg hi' dN hh;have c3:=Jd (X:=X) (l:=f.comps) (by have:=ha.fl.n;omega) [(97+i).toUInt8];rw[hx] at c3;have c3:Rn F X 49 0 [.sl (f.comps.map Cm.s),.str [(97+i).toUInt8]] (·=[.str x.name,.sl (x.vars.map Vr.s),.sl (cL x.bx),.bool true]):=c3;have c4:=V9 (X:=X) (fl:=f.flags) (vs:=bY ints tables) (ps:=bl 112 params) (c:=c) (pl:=pl) (n:=n) (f:=f) (w:=w) (fst:=0) (hR.small cP Ix) qC (by omega) (by omega) (by omega) (fun e h=>DP hi ht hf bE hp (he e h));exact wr rfl<|js<|wg 7 rfl<|wl rfl c3 rfl<|wl rfl (u _ _) rfl<|wl rfl c4 rfl<|Cn<|wt rfl rfl
 | @E7 h m l hi' hh es he hn=>
  have Ix:=ha.fl.comps own c ha.jJ;have dN:=(cP l (xu hi')).2.1;have eV:=(cP l (xu hi')).2.2 m (xu hh);obtain⟨hd,qC,io⟩:=Ix.qg hi' dN hh;have c4:=V9 (X:=X) (fl:=f.flags) (vs:=bY ints tables) (ps:=bl 112 params) (c:=c) (pl:=pl) (n:=n) (f:=f) (w:=w) (fst:=1) (hR.small cP Ix) qC (by omega) (by omega) (by omega) (fun e h=>DP hi ht hf bE hp (he e h));exact wr rfl<|js<|wg 8 rfl<|wl rfl c4 rfl<|Fb<|wt rfl rfl
 | @store a b ha hb el h2=>
  have c2:=A1 [a,b] (by simp) (LR ha hb);exact wr rfl<|js<|wg 9 rfl<|wl rfl c2 rfl<|Fb<|wt rfl rfl
 | @HC k h a ha el h2=>
  have c1:=V1 k h;have c2:=A1 [a] (by simp) (vr ha);refine wr rfl<|js<|wg 4 rfl<|wl rfl c1 rfl<|wg 1 rfl<|wl rfl (u _ _) rfl<|wl rfl c2 rfl ?_;dsimp only [dU,Ex.r,St.r,List.cons_append,List.nil_append,df,de,iT,kr,kq,St.s];exact wt rfl rfl
 |stop=>
  exact wr rfl<|js<|wg 9 rfl<|wt rfl rfl
theorem aF7(hX:yO X)(ha:At ar f own c ints tables params al)(fV:pl.length≤100):∀(m:Nat) (l:List St) (d n:Nat) (w:aH),St.ns l≤m→l9 ⟨⟨ints,tables,f.flags.length,params⟩,ar,own⟩ d l→n+St.ns l≤12→Rn F X 69 0 (nn f ints tables params c pl n w++[.sl (St.ss l)]) (fun o=>∃w',o=nn f ints tables params c pl (n+St.ns l) w'):=by
 intro m
 induction m with
 |zero=>
  intro l d n w hl _ _;have:=ot l;obtain rfl:l=[]:=xE.1 (by omega);exact wr rfl<|wo rfl bf<|Wp.jump rfl<|wr rfl<|wg 1 rfl<|wt rfl ⟨w,rfl⟩
 |succ m ih=>
  intro l d n w hl hb hn;have loop:∀(ae pre:List St),l=pre++ae→∀w,Rn F X 69 1 ([.sl (St.ss l),jD l.length,jD pre.length]++nn f ints tables params c pl (n+St.ns pre) w) (fun o=>∃w',o=nn f ints tables params c pl (n+St.ns l) w'):=by
   intro ae
   induction ae with
   |nil=>
    intro pre hp w;rw[xj] at hp;subst hp;exact wr rfl<|fZ<|wn rfl ak<|wt rfl ⟨w,rfl⟩
   |cons a ae dj=>
    intro pre hp w;have aC:=bu hp;have lW:=ot l;have ap:(St.ss l)[pre.length]? =some (St.s a):=by rw[hp];exact y4 _ _ _
    have kv:St.ns l=St.ns pre+(St.n a+St.ns ae):=by rw[hp,St.wF];rfl
    have next:=dj (pre++[a]) (by rw[hp,bp]);obtain⟨d,rfl⟩:∃x,d=x+1:=by
     cases d with
     |zero=>rw[show l=[] from hb] at hp;simp at hp
     |succ x=>exact⟨x,rfl⟩
    have hs:=hb a (by rw[hp];simp);obtain⟨s1,ej,c1⟩:=hX.L3 (n+St.ns pre) (by omega);have c3:=fun w=>aG3 (X:=X) (pl:=pl) (n:=n+St.ns pre+1) (w:=w) ha hs
    obtain⟨kind,name,cg,bi,th,el⟩:=a;obtain⟨n1,n2⟩:=hs.nest;simp only [St.n] at kv;have b1:∃d',l9 ⟨⟨ints,tables,f.flags.length,params⟩,ar,own⟩ d' th:=by
     rcases n1 with rfl|h
     ·exact⟨0,rfl⟩
     ·exact⟨_,h⟩
    have b2:∃d',l9 ⟨⟨ints,tables,f.flags.length,params⟩,ar,own⟩ d' el:=by
     rcases n2 with rfl|h
     ·exact⟨0,rfl⟩
     ·exact⟨_,h⟩
    obtain⟨d1,b1⟩:=b1;obtain⟨d2,b2⟩:=b2;have c4:=fun w=>ih th d1 (n+St.ns pre+1) w (by omega) b1 (by omega)
    have c5:=fun w=>ih el d2 (n+St.ns pre+1+St.ns th) w (by omega) b2 (by omega)
    have e1:n+St.ns (pre++[St.mk kind name cg bi th el])=n+St.ns pre+1+St.ns th+St.ns el:=by rw[St.wF];simp[St.ns,St.n];omega
    rw[e1,xa] at next;refine wr rfl<|fZ<|wy rfl ak<|wo rfl (aB ap rfl)<|wg 1 rfl<|n6<|wl rfl c1 rfl<|wo rfl (du (by omega))<|wl rfl (HH f _ _) rfl<|wo rfl oA<|Fb<|wl rfl (c3 _) rfl<|Mx<|wg 1 rfl<|wx rfl (c4 _) fun|_,⟨w4,rfl⟩=>⟨rfl,?_⟩
    dsimp only [dU,Ex.r,St.r,List.cons_append,List.nil_append,df,de,iT,kr,kq,St.s];refine wg 1 rfl<|wx rfl (c5 _) fun|_,⟨w5,rfl⟩=>⟨rfl,?_⟩
    dsimp only [dU,Ex.r,St.r,List.cons_append,List.nil_append,df,de,iT,kr,kq,St.s];exact wo rfl oA<|Wp.jump rfl (next _)
  have:=loop l [] rfl w;exact wr rfl<|wo rfl (aA (mY _))<|wj this
end
end Go.Proofs.YtaginlnifpbfgaaGreatDoor
namespace Go.Fl
open Go.Ex
theorem aJ1{a b n:Nat}(h1:a/n=b/n)(h2:a%n=b%n):a=b:=by
 rw[←Nat.div_add_mod a n,←Nat.div_add_mod b n,h1,h2]
theorem iC.bQ4{ar:List (List Nat)}{f:bq}(h:iC ar f):f.links.Pairwise (fun x y=> ¬(x.src=y.src∧x.dst=y.dst)):=by
 obtain⟨ks,gZ,hp,hk⟩:=h.links;have hn:=h.n;have h9:ar.length*ar.length≤9:=Nat.mul_le_mul hn.2.2 hn.2.2;rw[gZ,List.pairwise_map];refine hp.imp_of_mem (fun{p q} hp hq bg he=> ?_);have h1:=hk p hp;have h2:=hk q hq;have d1:p.1/ar.length<ar.length:=Nat.div_lt_of_lt_mul h1.1;have d2:q.1/ar.length<ar.length:=Nat.div_lt_of_lt_mul h2.1;have m1:p.1%ar.length<ar.length:=Nat.mod_lt _ hn.2.1;have m2:q.1%ar.length<ar.length:=Nat.mod_lt _ hn.2.1;have e1:=Gm (by omega) (by omega) he.1;have e2:=Gm (by omega) (by omega) he.2;have:=aJ1 e1 e2;omega
theorem iC.bo4{ar:List (List Nat)}{f:bq}(h:iC ar f):∀x∈f.links,(∃i,i<ar.length∧x.src=[(97+i).toUInt8])∧∃i,i<ar.length∧x.dst=[(97+i).toUInt8]:=by
 obtain⟨ks,gZ,hp,hk⟩:=h.links;have hn:=h.n;intro x hx;rw[gZ] at hx;obtain⟨p,hp,rfl⟩:=xJ.1 hx;exact⟨⟨_,Nat.div_lt_of_lt_mul (hk p hp).1,rfl⟩,_,Nat.mod_lt _ hn.2.1,rfl⟩
theorem aT5{α:Type}{l pre ae:List α}(h:l=pre++ae):l.take pre.length=pre:=by rw[h];exact List.take_left
theorem bo5{i c k:Nat}:[(97+i).toUInt8]≠nm c k:=by
 intro h;have:=congrArg List.length h;simp[nm] at this
end Go.Fl
namespace Go.Proofs.YtaginlnifpbfgaaGreatDoor
open Go.Ex Go.RowKit Go.Fl
section
variable{X:Nat→List D→Option (List D)}{ar:List (List Nat)}{f:bq}{own:Nat}{c:Cm}{ints tables params n:Nat}{al:List Nat}{pl w:aH}
theorem Di{α:Type}{g:α→List D}{l pre ae:List α}(h:l=pre++ae):(l.map g).take pre.length=pre.map g:=by rw[←List.map_take,aT5 h]
theorem ba4(hI:yO X)(ha:At ar f own c ints tables params al){k:Nat}{h:Hn}{Ij:aH}(hv:Ij.length≤20)(mR:h.params=bl 112 params)(hb:l9 ⟨⟨ints,tables,f.flags.length,params⟩,ar,own⟩ 4 h.body)(iL:h.name.length≤6)(hn:St.ns h.body≤12):
 Rn F X 56 0 (fw f w++[.str c.name,.sl (c.vars.map Vr.s),.sl (cL c.bx),.str h.name,.sl (strs h.params),.sl (St.ss h.body),.str Ij]) (fun o=>∃w',o=fw f w'):=by
 obtain⟨BJ,dh6,El⟩:=h;simp only at mR hb iL hn;subst mR;have hi:=ha.i;have ht:=ha.t;have hp:=ha.p;have hf:Fa f.flags f.flags.length:=ha.fl.fg;have bE:=ha.fl.flags.1;obtain⟨l1,l2,l3⟩:=zX hi ht hf bE hp;have CA:c.name.length=1:=by rw[(ha.fl.comps own c ha.jJ).name];rfl
 have ji:=ha.vars;have fp:(strs (bl 112 params)).length=params:=by simp[strs,bl]
 have eA:(bl 112 params).length=params:=by simp[bl]
 have c9:∀pl:aH,pl.length≤100→Rn F X 69 0 ([.sl (f.flags.map Fg.d),.sl (c.vars.map Vr.s),.sl (strs (bl 112 params)),.str c.name,.sl (c.vars.map Vr.s),.sl (cL c.bx),.str pl,iD 0]++fw f w++[.sl (St.ss El)]) (fun o=>∃w',o=nn f ints tables params c pl (0+St.ns El) w'):=fun pl fV=>by
  have:=aF7 hI ha fV 12 El 4 0 w (by omega) hb (by omega);unfold nn v7 at this⊢;rw[ji] at this⊢;exact this
 have loop:∀(ae pre:List aH),bl 112 params=pre++ae→Rn F X 56 1 ([.str Ij,.sl (strs (bl 112 params)),jD params,jD pre.length]++fw f w++[.str c.name,.sl (c.vars.map Vr.s),.sl (cL c.bx),.str BJ,.sl (St.ss El)]) (fun o=>∃w',o=fw f w'):=by
  intro ae
  induction ae with
  |nil=>
   intro pre aE;rw[xj] at aE;have e:pre.length=params:=by rw[←aE];exact eA
   rw[e];refine wr rfl<|gu<|wn rfl ak<|wo rfl (du (by simp;omega))<|wo rfl (du (by simp;omega))<|wo rfl (du (by simp;omega))<|wo rfl (du (by simp;omega))<|iE<|wo rfl (du (by simp;omega))<|wg 1 rfl<|wx rfl (c9 _ (by simp;omega)) fun|_,⟨w',rfl⟩=>⟨rfl,?_⟩
   exact wt rfl ⟨w',rfl⟩
  |cons a ae dj=>
   intro pre aE;have aC:=bu aE;have ap:(strs (bl 112 params))[pre.length]? =some [.str a]:=bR (f:=fun p:aH=>[D.str p]) aE;have oe:(strs (bl 112 params)).take pre.length=strs pre:=Di (g:=fun p:aH=>[D.str p]) aE;have ea:a=nm 112 pre.length:=by
    have h1:=wz aE;have bg:pre.length<params:=by omega
    rw[bl,xx,List.getElem?_range bg] at h1;cases h1;rfl
   have cN0:a∉pre:=by
    intro hm;have EQ:∀x∈pre,∃j,j<pre.length∧x=nm 112 j:=fun x hx=>by
     obtain⟨j,hj⟩:=tI hx;have lX:=jW hj;have h1:(bl 112 params)[j]? =some x:=by rw[aE,xw lX];exact hj
     rw[bl,xx,List.getElem?_range (by omega)] at h1;cases h1;exact⟨j,lX,rfl⟩
    obtain⟨j,hj,e⟩:=EQ a hm;rw[ea] at e;have:=(u5 (by omega) (by omega) (by omega) (by omega) e).2;omega
   have c1:=yP (X:=X) l2 a;rw[ea,W2 hi ht (by omega) (by omega) (by omega),←ea,←ji] at c1;have c1:Rn F X 47 0 [.sl (c.vars.map Vr.s),.str a] (·=[.str [],bD 0,iD 0,.bool false]):=c1;have c2:=Gp (X:=X) l1 a;rw[Pn hf (fun j hj=>by rw[ea];intro e;have:=u5 (by omega) (by omega) (by omega) (by omega) e;omega)] at c2;have c3:=yR (X:=X) (l:=pre) (by omega) a;rw[decide_eq_false cN0] at c3;have u:=yV (X:=X) f w a 5;have next:=dj (pre++[a]) (by rw[aE,bp]);rw[xa] at next;refine wr rfl<|gu<|wy rfl ak<|wo rfl (aB ap rfl)<|wg 1 rfl<|wl rfl c1 rfl<|wl rfl c2 rfl<|yr ?_
   (refine Wp.op rfl (m6 (by rw[fp];omega)) rfl ?_;rw[oe])
   exact wl rfl c3 rfl<|wl rfl u rfl<|wo rfl oA<|jL<|wj next
 have:=loop (bl 112 params) [] rfl;exact wr rfl<|wo rfl (aA fp)<|wj this
theorem aY0(hf:iC ar f):Rn F X 54 0 (fw f w) (fun o=>∃w',o=fw f w'):=by
 have IP:=hf.fg;have bE:=hf.flags.1;have loop:∀(ae pre:List Fg),f.flags=pre++ae→∀w,Rn F X 54 1 ([.sl (f.flags.map Fg.d),jD f.flags.length,jD pre.length]++fw f w) (fun o=>∃w',o=fw f w'):=by
  intro ae
  induction ae with
  |nil=>
   intro pre hp w;rw[xj] at hp;rw[hp];exact wr rfl<|dh<|wn rfl ak<|wt rfl ⟨w,rfl⟩
  |cons a ae ih=>
   intro pre hp w;have aC:=bu hp;have ap:=bR (f:=Fg.d) hp;have oe:=Di (g:=Fg.d) hp;have pY:=ch Fg.d f.flags;have ea:=IP.2 _ _ (wz hp);have EQ:vz pre a.name=false:=List.any_eq_false.2 (fun x hx=>by
    obtain⟨j,hj⟩:=tI hx;have lX:=jW hj;have h1:f.flags[j]? =some x:=by rw[hp,xw lX];exact hj
    rw[IP.2 j x h1,ea];intro e;have e:nm 102 j=nm 102 pre.length:=by simpa using e
    have:=(u5 (by omega) (by omega) (by omega) (by omega) e).2;omega)
   have c2:=Gp (X:=X) (l:=pre) (by omega) a.name;rw[EQ] at c2;have bt:a.name.length=2:=by rw[ea];rfl
   have next:=ih (pre++[a]) (by rw[hp,bp]);rw[xa] at next;obtain⟨an,ab⟩:=a;simp only at bt c2;have u:=fun w e=>yV (X:=X) f w an e
   cases ab
   ·refine wr rfl<|dh<|wy rfl ak<|wo rfl (aB ap rfl)<|wg 2 rfl<|nj<|wo rfl (du (by simp;omega))<|wl rfl (HH f _ _) rfl ?_
    (refine Wp.op rfl (m6 (by rw[pY];omega)) rfl ?_;rw[oe])
    exact wl rfl c2 rfl<|n6<|wl rfl (u _ _) rfl<|wo rfl oA<|Wp.jump rfl (next _)
   ·refine wr rfl<|dh<|wy rfl ak<|wo rfl (aB ap rfl)<|wg 1 rfl<|nj<|wo rfl (du (by simp;omega))<|wl rfl (HH f _ _) rfl ?_
    (refine Wp.op rfl (m6 (by rw[pY];omega)) rfl ?_;rw[oe])
    exact wl rfl c2 rfl<|n6<|wl rfl (u _ _) rfl<|wo rfl oA<|Wp.jump rfl (next _)
 have:=loop f.flags [] rfl w;exact wr rfl<|wo rfl (aA (ch _ _))<|wj this
theorem aL3{l:List Lk}(hl:l.length≤1000){s d:aH}{t:Nat}(h:∀x∈l,¬(x.src=s∧x.dst=d)):Rn F X 45 0 [.sl (l.map Lk.d),.ptr [.str s,.str d,iD t] 0] (·=[.int .i64 (-1)]):=by
 have loop:∀(ae pre:List Lk),l=pre++ae→Rn F X 45 1 [.sl (l.map Lk.d),.ptr [.str s,.str d,iD t] 0,jD l.length,jD pre.length] (·=[.int .i64 (-1)]):=by
  intro ae
  induction ae with
  |nil=>
   intro pre hp;rw[xj] at hp;subst hp;exact wr rfl<|wn rfl ak<|wt rfl rfl
  |cons a ae ih=>
   intro pre hp;have aC:=bu hp;have ap:=bR (f:=Lk.d) hp;have ha:=h a (by rw[hp];simp);have next:=ih (pre++[a]) (by rw[hp,bp]);rw[xa] at next;obtain⟨a1,a2,a3⟩:=a;simp only at ha;by_cases hs:a1=s
   ·have hd: ¬a2=d:=fun hd=>ha ⟨hs,hd⟩
    exact wr rfl<|wy rfl ak<|wo rfl (aB ap rfl)<|wg 1 rfl<|w8<|wg 2 rfl<|Wp.fR rfl nG hs<|wg 2 rfl<|lH<|Wp.iG rfl nG hd<|wo rfl oA<|wj next
   ·exact wr rfl<|wy rfl ak<|wo rfl (aB ap rfl)<|wg 1 rfl<|w8<|wg 2 rfl<|Wp.iG rfl nG hs<|wo rfl oA<|wj next
 exact wr rfl<|wo rfl (aA (ch _ _))<|wj (loop l [] rfl)
theorem aW7(hf:iC ar f):Rn F X 55 0 (fw f w) (fun o=>∃w',o=fw f w'):=by
 have hn:=hf.n;have hl9:=hf.ok.links.1;have loop:∀(ae pre:List Lk),f.links=pre++ae→∀w,Rn F X 55 1 ([.sl (f.links.map Lk.d),jD f.links.length,jD pre.length]++fw f w) (fun o=>∃w',o=fw f w'):=by
  intro ae
  induction ae with
  |nil=>
   intro pre hp w;rw[xj] at hp;rw[hp];exact wr rfl<|dh<|wn rfl ak<|wt rfl ⟨w,rfl⟩
  |cons a ae ih=>
   intro pre hp w;have aC:=bu hp;have ap:=bR (f:=Lk.d) hp;have oe:=Di (g:=Lk.d) hp;have pY:=ch Lk.d f.links;have hpw:=hf.bQ4;rw[hp] at hpw;have gX:∀x∈pre,¬(x.src=a.src∧x.dst=a.dst):=fun x hx=>(List.pairwise_append.1 hpw).2.2 x hx a (by simp)
   obtain⟨⟨i1,uK,e1⟩,i2,eI,e2⟩:=hf.bo4 a (by rw[hp];simp);obtain⟨x1,_,q1⟩:=hf.find uK;obtain⟨x2,_,q2⟩:=hf.find eI;have c1:=Jd (X:=X) (l:=f.comps) (by omega) a.src;rw[e1,q1,←e1] at c1;have c1:Rn F X 49 0 [.sl (f.comps.map Cm.s),.str a.src] (·=[.str x1.name,.sl (x1.vars.map Vr.s),.sl (cL x1.bx),.bool true]):=c1;have c2:=Jd (X:=X) (l:=f.comps) (by omega) a.dst;rw[e2,q2,←e2] at c2;have c2:Rn F X 49 0 [.sl (f.comps.map Cm.s),.str a.dst] (·=[.str x2.name,.sl (x2.vars.map Vr.s),.sl (cL x2.bx),.bool true]):=c2;have c3:=aL3 (X:=X) (l:=pre) (t:=a.Ay) (by omega) gX;have l1:a.src.length=1:=by rw[e1];rfl
   have l2:a.dst.length=1:=by rw[e2];rfl
   have next:=ih (pre++[a]) (by rw[hp,bp]);rw[xa] at next;have u:=fun w n e=>yV (X:=X) f w n e
   obtain⟨a1,a2,a3⟩:=a;simp only at c1 c2 c3 l1 l2;have p2:∀w,Rn F X 55 2 ([jD pre.length,.sl (f.links.map Lk.d),jD f.links.length,iD 2]++fw f w++[.str a1,.str a2,iD a3]) (fun o=>∃w',o=fw f w'):=by
    intro w;refine wr rfl<|dJ<|wg 1 rfl ?_
    (refine Wp.op rfl (m6 (by rw[pY];omega)) rfl ?_;rw[oe])
    exact wg 2 rfl<|wL rfl c3 rfl<|wg 1 rfl<|wl rfl (u _ _ _) rfl<|iS<|wo rfl oA<|Wp.jump rfl (next _)
   have p1:∀w,Rn F X 55 2 ([jD pre.length,.sl (f.links.map Lk.d),jD f.links.length,iD 1]++fw f w++[.str a1,.str a2,iD a3]) (fun o=>∃w',o=fw f w'):=by
    intro w;exact wr rfl<|dJ<|wg 3 rfl<|wl rfl c2 rfl<|wl rfl (u _ _ _) rfl<|wo rfl oI<|pQ<|Wp.jump rfl (p2 _)
   have p0:∀w,Rn F X 55 2 ([jD pre.length,.sl (f.links.map Lk.d),jD f.links.length,iD 0]++fw f w++[.str a1,.str a2,iD a3]) (fun o=>∃w',o=fw f w'):=by
    intro w;exact wr rfl<|dJ<|wg 3 rfl<|wl rfl c1 rfl<|wl rfl (u _ _ _) rfl<|wo rfl oI<|pQ<|Wp.jump rfl (p1 _)
   exact wr rfl<|dh<|wy rfl ak<|wo rfl (aB ap rfl)<|wg 1 rfl<|dJ<|wo rfl (du (by simp;omega))<|wo rfl (du (by simp;omega))<|wo rfl (du (by simp;omega))<|wl rfl (HH f _ _) rfl<|iS<|Wp.jump rfl (p0 _)
 have:=loop f.links [] rfl w;exact wr rfl<|wo rfl (aA (ch _ _))<|wj this
end
section
variable{X:Nat→List D→Option (List D)}{ar:List (List Nat)}{f:bq}{own:Nat}{c:Cm}{n:Nat}{al:List Nat}{w:aH}
theorem aS9{l pre ae:List (List Hn)}(h:l=pre++ae):(cL l).take pre.length=cL pre:=Di (g:=fun l:List Hn=>[D.sl (l.map Hn.s)]) h
theorem aZ1(hI:yO X)(hf:iC ar f){i:Nat}(hi:f.comps[i]? =some c):Rn F X 57 0 (fw f w++[jD i]) (fun o=>∃w',o=fw f w'):=by
 have hn:=hf.n;have IP:=hf.fg;have bE:=hf.flags.1;have qA:=jW hi;have FI:=hf.comps i c hi;obtain⟨ints,tables,al,i1,i3,t1,bt,Lo,ob,cM,hvl,ji⟩:=FI.rest;have cP:=hf.v8;have av4:=(cP al (xu bt)).2.1;have cQ6:=(cP al (xu bt)).2.2;have cn:c.name=[(97+i).toUInt8]:=FI.name;have cnl:c.name.length=1:=by rw[cn];rfl
 have NL:∀w w',Rn F X 53 0 (fw f w++[.str w']) (·= .bool true::fw f w'):=fun w w'=>HH f w w'
 have u:=fun w n e=>yV (X:=X) f w n e
 have IN:f.flags.length≤1000:=by omega
 have Ka:c.vars=bY ints tables:=Lo;have hvn:c.vars.length=ints+1+tables:=by rw[Ka];exact NS _ _
 have vNd:∀(pre ae:List Vr) (v:Vr),c.vars=pre++v::ae→qQ pre v.name=none∧vz f.flags v.name=false∧v.name.length=2:=by
  intro pre ae v hp;have c6:(c.vars.map Vr.name).Nodup:=by
   rw[Ka];have a:ints=1∨ints=2∨ints=3:=by omega
   have b:tables=0∨tables=1:=by omega
   rcases a with rfl|rfl|rfl<;>rcases b with rfl|rfl<;>decide
  obtain⟨cc,kk,e,h'⟩:=UN (n:=ints) (t:=tables) (v:=v) (by rw[←Ka,hp];simp);refine⟨List.find?_eq_none.2 (fun x hx=> ?_),Pn IP (fun j hj=> ?_),by rw[e];rfl⟩
  ·rw[hp,List.map_append,List.map_cons,List.nodup_append] at c6;have:=c6.2.2 x.name (xJ.2 ⟨x,hx,rfl⟩) v.name (by simp);simpa using this
  ·rw[e];intro e2;have:=u5 (by omega) (by omega) (by omega) (by omega) e2;omega
 have kA:∀(ae pre:List (List Hn)),c.bx=pre++ae→∀w,Rn F X 57 2 ([.sl (cL c.bx),jD c.bx.length,jD pre.length]++fw f w++[.str c.name,.sl (c.vars.map Vr.s)]) (fun o=>∃w',o=fw f w'):=by
  intro ae
  induction ae with
  |nil=>
   intro pre hp w;rw[xj] at hp;rw[hp];exact wr rfl<|mN<|wn rfl ak<|wt rfl ⟨w,rfl⟩
  |cons v ae ih=>
   intro pre hp w;have aC:=bu hp;have ap:(cL c.bx)[pre.length]? =some [.sl (v.map Hn.s)]:=bR (f:=fun l:List Hn=>[D.sl (l.map Hn.s)]) hp;have oe:=aS9 hp;have as2:(cL c.bx).length=c.bx.length:=xm _;have hv:=ji v (by rw[hp];simp);have next:=ih (pre++[v]) (by rw[hp,bp]);rw[xa] at next;obtain⟨s1,ej,Ms⟩:=hI.L3 (pre.length+1) (by omega);have mh:∀(dI bw:List Hn),v=bw++dI→∀w,Rn F X 57 3 ([jD pre.length,.sl (cL c.bx),jD c.bx.length,.sl (v.map Hn.s),jD v.length,jD bw.length]++fw f w++[.str c.name,.sl (c.vars.map Vr.s)]) (fun o=>∃w',o=fw f w'):=by
    intro dI
    induction dI with
    |nil=>
     intro bw bF w;rw[xj] at bF;subst bF;exact wr rfl<|oY<|wn rfl ak<|wo rfl oA<|Wp.jump rfl (next _)
    |cons h dI mP=>
     intro bw bF w;have xW:=bu bF;have gk:=bR (f:=Hn.s) bF;have as4:=Di (g:=Hn.s) bF;have au3:=ch Hn.s v;have eZ:=mP (bw++[h]) (by rw[bF,bp]);rw[xa] at eZ;have ho:=hv.2.2 bw.length h (wz bF);obtain⟨m,hm,mR,hb⟩:=ho.mO;have eV:=cQ6 m (xu hm);have IK:=jW hm;have kv:h.name.length=2:=by rw[ho.name];rfl
     have named:∀l∈c.bx,∀x∈l,∀k,x.name=nm 104 k→k<3→∃j,l[j]? =some x∧j=k:=by
      intro l hl x hx k hxk hk;obtain⟨j,hj⟩:=tI hx;have lX:=jW hj;have h2:=ji l hl;have h3:=(h2.2.2 j x hj).name;rw[hxk] at h3;exact⟨j,hj,(u5 (by omega) (by omega) (by omega) (by omega) h3).2.symm⟩
     have n1:qg [bw] h.name=none:=List.find?_eq_none.2 (fun x hx=>by
      have hx:x∈bw:=by simpa using hx
      intro e;have e:x.name=h.name:=by simpa using e
      obtain⟨j,hj⟩:=tI hx;have lX:=jW hj;have h1:v[j]? =some x:=by rw[bF,xw lX];exact hj
      have h3:=(hv.2.2 j x h1).name;rw[e,ho.name] at h3;have:=(u5 (by omega) (by omega) (by omega) (by omega) h3).2;omega)
     have c1:=N6 (X:=X) (l:=[bw]) (by simp) (fun x hx=>by rw[xy] at hx;subst hx;omega) h.name;rw[n1] at c1;have c1:Rn F X 48 0 [.sl [[.sl (bw.map Hn.s)]],.str h.name] (·=[.str [],.sl [],.sl [],.bool false]):=c1;have c2:=N6 (X:=X) (l:=pre) (by omega) (fun x hx=>by have:=(ji x (by rw[hp];simp[hx])).2.1;omega) h.name;have cB:=fun w (Ij:aH) (cL2:Ij.length≤20)=>ba4 (X:=X) (w:=w) (k:=0) hI (⟨hf,hi,bt,Ka,i3,t1,eV⟩:At ar f i c ints tables m al) cL2 mR hb (by omega) ho.n
     have fV:h.params.length=m:=by rw[mR];simp[bl]
     have fp:(strs h.params).length=m:=by rw[←fV];exact xm _
     cases hq:qg pre h.name with
     |none=>
      rw[hq] at c2;have c2:Rn F X 48 0 [.sl (cL pre),.str h.name] (·=[.str [],.sl [],.sl [],.bool false]):=c2;obtain⟨h1,h2,h3⟩:=h;simp only at kv c1 c2 cB fV fp;refine wr rfl<|oY<|wy rfl ak<|wo rfl (aB gk rfl)<|wg 1 rfl<|lG<|wo rfl (du (by simp;omega))<|wo rfl (du (by simp;omega))<|wo rfl (du (by simp;omega))<|wo rfl (du (by simp;omega))<|yr<|wo rfl oA<|wl rfl Ms rfl<|wo rfl (du (by simp;omega))<|wl rfl (NL _ _) rfl<|jL ?_
      (refine Wp.op rfl (m6 (by rw[au3];omega)) rfl ?_;rw[as4])
      refine wg 2 rfl<|wL rfl c1 rfl<|wl rfl (u _ _ _) rfl<|Cn ?_
      (refine Wp.op rfl (m6 (by rw[as2];omega)) rfl ?_;rw[oe])
      refine wl rfl c2 rfl<|wl rfl (u _ _ _) rfl<|wo rfl oA ?_;dsimp only [dU,Ex.r,St.r,List.cons_append,List.nil_append,df,de,iT,kr,kq,Hn.s];refine wl rfl Ms rfl<|wo rfl (du (by simp;omega))<|wg 1 rfl<|wx rfl (cB _ _ (by simp;omega)) fun|_,⟨w2,rfl⟩=>⟨rfl,?_⟩
      dsimp only [dU,Ex.r,St.r,List.cons_append,List.nil_append,df,de,iT,kr,kq,Hn.s];exact wo rfl oA<|Wp.jump rfl (eZ _)
     |some b=>
      rw[hq] at c2;have c2:Rn F X 48 0 [.sl (cL pre),.str h.name] (·=[.str b.name,.sl (strs b.params),.sl (St.ss b.body),.bool true]):=c2;have CC:b.name=h.name:=by simpa using List.find?_some hq
      have hbp:b.params.length=m:=by
       obtain⟨l,hl,hx⟩:=List.mem_flatten.1 (List.mem_of_find?_eq_some hq);have T1:l∈c.bx:=by rw[hp];simp[hl]
       obtain⟨j,hj,rfl⟩:=named l T1 b hx _ (by rw[CC];exact ho.name) (by omega);obtain⟨m',AG,cM0,_⟩:=((ji l T1).2.2 _ b hj).mO;rw[hm] at AG;cases AG;rw[cM0];simp[bl]
      have hbs:(strs b.params).length=m:=by rw[←hbp];exact xm _
      obtain⟨h1,h2,h3⟩:=h;simp only at kv c1 c2 cB fV fp;refine wr rfl<|oY<|wy rfl ak<|wo rfl (aB gk rfl)<|wg 1 rfl<|lG<|wo rfl (du (by simp;omega))<|wo rfl (du (by simp;omega))<|wo rfl (du (by simp;omega))<|wo rfl (du (by simp;omega))<|yr<|wo rfl oA<|wl rfl Ms rfl<|wo rfl (du (by simp;omega))<|wl rfl (NL _ _) rfl<|jL ?_
      (refine Wp.op rfl (m6 (by rw[au3];omega)) rfl ?_;rw[as4])
      refine wg 2 rfl<|wL rfl c1 rfl<|wl rfl (u _ _ _) rfl<|Cn ?_
      (refine Wp.op rfl (m6 (by rw[as2];omega)) rfl ?_;rw[oe])
      refine wl rfl c2 rfl<|wo rfl (aA hbs)<|wo rfl (aA fp) ?_;dsimp only [dU,Ex.r,St.r,List.cons_append,List.nil_append,df,de,iT,kr,kq,Hn.s];refine Wp.fR rfl ay rfl<|wl rfl (u _ _ _) rfl<|wo rfl oA<|wl rfl Ms rfl<|wo rfl (du (by simp;omega)) ?_;dsimp only [dU,Ex.r,St.r,List.cons_append,List.nil_append,df,de,iT,kr,kq,Hn.s];refine wg 1 rfl<|wx rfl (cB _ _ (by simp;omega)) fun|_,⟨w2,rfl⟩=>⟨rfl,?_⟩
      dsimp only [dU,Ex.r,St.r,List.cons_append,List.nil_append,df,de,iT,kr,kq,Hn.s];exact wo rfl oA<|Wp.jump rfl (eZ _)
   exact wr rfl<|mN<|wy rfl ak<|wo rfl (aB ap rfl)<|wg 1 rfl<|dJ<|wo rfl (aA (ch _ _))<|Wp.jump rfl (mh v [] rfl _)
 have G7:∀(ae pre:List Vr),c.vars=pre++ae→∀w,Rn F X 57 1 ([.sl (c.vars.map Vr.s),jD c.vars.length,jD pre.length]++fw f w++[.str c.name,.sl (cL c.bx)]) (fun o=>∃w',o=fw f w'):=by
  intro ae
  induction ae with
  |nil=>
   intro pre hp w;rw[xj] at hp;have hp':pre.length=c.vars.length:=by rw[hp]
   exact wr rfl<|mN<|wn rfl ak<|wo rfl (aA (xm _))<|Wp.jump rfl (kA c.bx [] rfl _)
  |cons v ae ih=>
   intro pre hp w;have aC:=bu hp;have ap:=bR (f:=Vr.s) hp;have oe:=Di (g:=Vr.s) hp;have pY:=ch Vr.s c.vars;obtain⟨q1,q2,q3⟩:=vNd pre ae v hp;have c1:=yP (X:=X) (l:=pre) (by omega) v.name;rw[q1] at c1;have c1:Rn F X 47 0 [.sl (pre.map Vr.s),.str v.name] (·=[.str [],bD 0,iD 0,.bool false]):=c1;have c2:=Gp (X:=X) IN v.name;rw[q2] at c2;have next:=ih (pre++[v]) (by rw[hp,bp]);rw[xa] at next;obtain⟨v1,v2,v3⟩:=v;simp only at c1 c2 q3;refine wr rfl<|mN<|wy rfl ak<|wo rfl (aB ap rfl)<|wg 1 rfl<|gu<|wo rfl (du (by simp;omega))<|wo rfl (du (by simp;omega))<|wo rfl (du (by simp;omega))<|wl rfl (NL _ _) rfl<|MA ?_
   (refine Wp.op rfl (m6 (by rw[pY];omega)) rfl ?_;rw[oe])
   refine wl rfl c1 rfl<|wl rfl c2 rfl<|wl rfl (u _ _ _) rfl ?_;dsimp only [dU,Ex.r,St.r,List.cons_append,List.nil_append,df,de,iT,kr,kq,Vr.s];exact wo rfl oA<|Wp.jump rfl (next _)
 have ap:(f.comps.map Cm.s)[i]? =some (Cm.s c):=by rw[xx,hi];rfl
 have pY:=ch Cm.s f.comps;have oe:(f.comps.map Cm.s).take i=(f.comps.take i).map Cm.s:=by rw[List.map_take]
 have c1:=Jd (X:=X) (l:=f.comps.take i) (by rw[xz];omega) c.name;have q1:zV (f.comps.take i) c.name=none:=List.find?_eq_none.2 (fun x hx=>by
  obtain⟨j,hj⟩:=tI hx;have lX:=jW hj;rw[xz] at lX;rw[List.getElem?_take_of_lt (by omega)] at hj;rw[(hf.comps j x hj).name,cn];intro e;have e:[(97+j).toUInt8]=[(97+i).toUInt8]:=by simpa using e
  have:=Gm (by omega) (by omega) e;omega)
 rw[q1] at c1;have c1:Rn F X 49 0 [.sl ((f.comps.take i).map Cm.s),.str c.name] (·=[.str [],.sl [],.sl [],.bool false]):=c1;have c2:=Gp (X:=X) IN c.name;rw[Pn IP (fun j hj e=>bo5 (by rw[cn] at e;exact e.symm))] at c2;have xl:=fun w=>G7 c.vars [] rfl w
 obtain⟨k1,k2,k3⟩:=c;simp only at c1 c2 cnl;refine wr rfl<|wo rfl (aB ap rfl)<|wg 1 rfl<|mN<|wo rfl (du (by simp;omega))<|wl rfl (NL _ _) rfl ?_
 (refine Wp.op rfl (m6 (by rw[pY];omega)) rfl ?_;rw[oe])
 exact wl rfl c1 rfl<|oX<|wl rfl c2 rfl<|wl rfl (u _ _ _) rfl<|wo rfl (aA (ch _ _))<|Wp.jump rfl (xl _)
theorem aF6(hX:mV X)(hI:yO X)(hf:iC ar f):Rn F X 58 0 f.s (·=[.str [],.str [],iD 0,iD 0]):=by
 have c0:=OT hX hf.ok;have c1:=fun w=>aY0 (X:=X) (w:=w) hf
 have c2:=fun w=>aW7 (X:=X) (w:=w) hf
 have hn:=hf.n;have loop:∀(k i:Nat),i+k=f.comps.length→∀w,Rn F X 58 1 ([jD f.comps.length,jD i]++fw f w) (·=[.str [],.str [],iD 0,iD 0]):=by
  intro k
  induction k with
  |zero=>
   intro i hi w;exact wr rfl<|n7<|wn rfl ak<|wt rfl rfl
  |succ k ih=>
   intro i hi w;have qA:i<f.comps.length:=by omega
   have c3:=aZ1 (X:=X) (w:=w) hI hf (xc qA);have next:=ih (i+1) (by omega);refine wr rfl<|n7<|wy rfl ak<|wg 1 rfl<|wx rfl c3 fun|_,⟨w3,rfl⟩=>⟨rfl,?_⟩
   exact Fc<|wo rfl oA<|Wp.jump rfl (next _)
 have lp:=fun w=>loop f.comps.length 0 (by omega) w
 have r:=fun w n=>Oj (X:=X) f w n
 have c0:Rn F X 41 0 [.str f.name,.sl (f.flags.map Fg.d),.sl (f.links.map Lk.d),.sl (f.comps.map Cm.s)] (·=[iD 0]):=c0;show Rn F X 58 0 [.str f.name,.sl (f.flags.map Fg.d),.sl (f.links.map Lk.d),.sl (f.comps.map Cm.s)] _;refine wr rfl<|wl rfl c0 rfl<|wl rfl (r _ _) rfl<|wg 1 rfl<|wx rfl (c1 _) fun|_,⟨w1,rfl⟩=>⟨rfl,?_⟩
 refine js<|wg 1 rfl<|wx rfl (c2 _) fun|_,⟨w2,rfl⟩=>⟨rfl,?_⟩
 exact pQ<|wo rfl (aA (ch _ _))<|Wp.jump rfl (lp _)
end
section
variable{X:Nat→List D→Option (List D)}
theorem aP9{nf own:Nat}{ar:List (List Nat)}{c:Cm}{al:List Nat}(hc:hR nf ar own c)(bt:ar[own]? =some al)(dN:al.length≤3):Rn F X 70 0 [.str c.name,.sl (c.vars.map Vr.s),.sl (cL c.bx)] (·=[.sl (strs (bl 104 al.length))]):=by
 obtain⟨ints,tables,NM,i1,i3,t1,Ae,Lo,ob,cM,⟨l0,qy,cO2⟩,ji⟩:=hc.rest;rw[bt] at Ae;cases Ae;have kA:∀(ae pre:List (List Hn)),c.bx=pre++ae→∀m,m≤al.length→(∀l∈pre,l.length≤m)→Rn F X 70 1 [.sl (strs (bl 104 m)),.sl (cL c.bx),jD c.bx.length,jD pre.length] (·=[.sl (strs (bl 104 al.length))]):=by
  intro ae
  induction ae with
  |nil=>
   intro pre hp m hm aK;rw[xj] at hp;have hp':pre.length=c.bx.length:=by rw[hp]
   have:al.length≤m:=by rw[←cO2];exact aK l0 (by rw[←hp];exact qy)
   obtain rfl:m=al.length:=by omega
   exact wr rfl<|wn rfl ak<|wt rfl rfl
  |cons v ae ih=>
   intro pre hp m hm aK;have aC:=bu hp;have ap:(cL c.bx)[pre.length]? =some [.sl (v.map Hn.s)]:=bR (f:=fun l:List Hn=>[D.sl (l.map Hn.s)]) hp;have hv:=ji v (by rw[hp];simp);have next:=ih (pre++[v]) (by rw[hp,bp]);rw[xa] at next;have mh:∀(dI bw:List Hn),v=bw++dI→∀m,m≤al.length→(∀l∈pre,l.length≤m)→bw.length≤m→Rn F X 70 2 [.sl (strs (bl 104 m)),.sl (cL c.bx),jD c.bx.length,jD pre.length,.sl (v.map Hn.s),jD v.length,jD bw.length] (·=[.sl (strs (bl 104 al.length))]):=by
    intro dI
    induction dI with
    |nil=>
     intro bw bF m hm aK h3;rw[xj] at bF;subst bF;have next:=next m hm (fun l hl=>by rcases xF.1 hl with hl|hl;exact aK l hl;rw[xy] at hl;subst hl;exact h3);exact wr rfl<|wn rfl ak<|wo rfl oA<|wj next
    |cons h dI mP=>
     intro bw bF m hm aK h3;have xW:=bu bF;have gk:=bR (f:=Hn.s) bF;have ho:=(hv.2.2 bw.length h (wz bF)).name;have eZ:=mP (bw++[h]) (by rw[bF,bp]);rw[xa] at eZ;obtain⟨h1,h2,h3'⟩:=h;simp only at ho;generalize hk:bw.length=k at*;subst ho;have hkl:k<al.length:=by omega
     rcases Nat.lt_or_ge k m with bg|ek
     ·have nx:=eZ m hm aK (by show k+1≤m;omega);have:(m=1∧k=0)∨(m=2∧k=0)∨(m=2∧k=1)∨(m=3∧k=0)∨(m=3∧k=1)∨(m=3∧k=2):=by omega
      rcases this with⟨rfl,rfl⟩|⟨rfl,rfl⟩|⟨rfl,rfl⟩|⟨rfl,rfl⟩|⟨rfl,rfl⟩|⟨rfl,rfl⟩
      ·exact wr rfl<|wy rfl ak<|wo rfl (aB gk rfl)<|wg 1 rfl<|dh<|wo rfl bf<|wg 4 rfl<|wo rfl oI<|wj nx
      ·exact wr rfl<|wy rfl ak<|wo rfl (aB gk rfl)<|wg 1 rfl<|dh<|wo rfl bf<|wg 4 rfl<|wo rfl oI<|wj nx
      ·exact wr rfl<|wy rfl ak<|wo rfl (aB gk rfl)<|wg 1 rfl<|dh<|wo rfl bf<|wg 8 rfl<|wo rfl oI<|dJ<|wj nx
      ·exact wr rfl<|wy rfl ak<|wo rfl (aB gk rfl)<|wg 1 rfl<|dh<|wo rfl bf<|wg 4 rfl<|wo rfl oI<|wj nx
      ·exact wr rfl<|wy rfl ak<|wo rfl (aB gk rfl)<|wg 1 rfl<|dh<|wo rfl bf<|wg 8 rfl<|wo rfl oI<|dJ<|wj nx
      ·exact wr rfl<|wy rfl ak<|wo rfl (aB gk rfl)<|wg 1 rfl<|dh<|wo rfl bf<|wg 11 rfl<|dJ<|wg 1 rfl<|wo rfl oI<|wj nx
     ·obtain rfl:k=m:=by omega
      have nx:=eZ (k+1) (by omega) (fun l hl=>xH (aK l hl) (by omega)) (by show k+1≤k+1;omega);have:k=0∨k=1∨k=2:=by omega
      rcases this with rfl|rfl|rfl
      ·exact wr rfl<|wy rfl ak<|wo rfl (aB gk rfl)<|wg 1 rfl<|dh<|wo rfl bf<|wg 4 rfl<|wo rfl oI<|dJ<|wj nx
      ·exact wr rfl<|wy rfl ak<|wo rfl (aB gk rfl)<|wg 1 rfl<|dh<|wo rfl bf<|wg 8 rfl<|dJ<|wo rfl oI<|wj nx
      ·exact wr rfl<|wy rfl ak<|wo rfl (aB gk rfl)<|wg 1 rfl<|dh<|wo rfl bf<|wg 11 rfl<|dJ<|wg 1 rfl<|wo rfl oI<|wj nx
   exact wr rfl<|wy rfl ak<|wo rfl (aB ap rfl)<|wg 1 rfl<|w6<|wo rfl (aA (ch _ _))<|Wp.jump rfl (mh v [] rfl m hm aK (by simp))
 exact wr rfl<|wo rfl (aA (xm _))<|Wp.jump rfl (kA c.bx [] rfl 0 (by omega) (fun l h=>by cases h))
def sB(L:Nat)(r:List D):Prop:=∃(op:Nat) (a b n:Int),r=[bD op,.int .i64 a,.int .i64 b,.int .i64 n]∧op≤34∧(op=27∨op=28→0≤a∧a≤L)∧(op=32∨op=33→0≤b∧b≤L)∧0≤n∧n≤8
def fO(code:List (List D)):Prop:=∀r∈code,sB code.length r
theorem sB.mono{L L':Nat}(h:L≤L'){r:List D}(hr:sB L r):sB L' r:=by
 obtain⟨op,a,b,n,e,h1,h2,h3,h4,h5⟩:=hr;exact⟨op,a,b,n,e,h1,fun q=>⟨(h2 q).1,by have:=(h2 q).2;omega⟩,fun q=>⟨(h3 q).1,by have:=(h3 q).2;omega⟩,h4,h5⟩
theorem fO.snoc{code:List (List D)}(h:fO code){r:List D}(hr:sB code.length r):fO (code++[r]):=fun x hx=>by
 rw[xa];rcases xF.1 hx with hx|hx
 ·exact(h x hx).mono (by simp)
 ·rw[xy] at hx;subst hx;exact hr.mono (by simp)
theorem fO.RF{code:List (List D)}(h:fO code){i:Nat}{v:Int}{r:List D}(hi:code[i]? =some r)(h0:0≤v)(h1:v≤code.length):fO (code.set i (r.take 1++[.int .i64 v]++r.drop 2)):=fun x hx=>by
 rw[xt];rcases List.mem_or_eq_of_mem_set hx with hx|hx
 ·exact h x hx
 ·obtain⟨op,a,b,n,e,q1,q2,q3,q4⟩:=h r (xu hi);subst e;subst hx;exact⟨op,v,b,n,rfl,q1,fun _=>⟨h0,h1⟩,q3,q4⟩
theorem fO.am1{code:List (List D)}(h:fO code){i:Nat}{v:Int}{r:List D}(hi:code[i]? =some r)(h0:0≤v)(h1:v≤code.length):fO (code.set i (r.take 2++[.int .i64 v]++r.drop 3)):=fun x hx=>by
 rw[xt];rcases List.mem_or_eq_of_mem_set hx with hx|hx
 ·exact h x hx
 ·obtain⟨op,a,b,n,e,q1,q2,q3,q4⟩:=h r (xu hi);subst e;subst hx;exact⟨op,a,v,n,rfl,q1,q2,fun _=>⟨h0,h1⟩,q4⟩
theorem Pb{code:List (List D)}(h:fO code){i:Nat}(hi:i<code.length){v:Int}:∃r,code[i]? =some r∧aU (.fk 1) [.sl code,jD i,.int .i64 v]=some (.sl (code.set i (r.take 1++[.int .i64 v]++r.drop 2))):=by
 obtain⟨op,a,b,n,e,_⟩:=h code[i] (List.getElem_mem hi);refine⟨code[i],xc hi,?_⟩;show(code[i]?).bind _=_;rw[xc hi,e];rfl
theorem WE{code:List (List D)}(h:fO code){i:Nat}(hi:i<code.length){v:Int}:∃r,code[i]? =some r∧aU (.fk 2) [.sl code,jD i,.int .i64 v]=some (.sl (code.set i (r.take 2++[.int .i64 v]++r.drop 3))):=by
 obtain⟨op,a,b,n,e,_⟩:=h code[i] (List.getElem_mem hi);refine⟨code[i],xc hi,?_⟩;show(code[i]?).bind _=_;rw[xc hi,e];rfl
structure Cp where
 f:bq
 hs:List (List aH)
 own:Nat
 vars:List aH
 tables:List aH
 flags:List aH
 params:List aH
abbrev gC(p:Cp)(code:List (List D)):List D:=[.str p.f.name,.sl (p.f.flags.map Fg.d),.sl (p.f.links.map Lk.d),.sl (p.f.comps.map Cm.s),.sl (p.hs.map fun l=>[.sl (strs l)]),jD p.own,.sl (strs p.vars),.sl (strs p.tables),.sl (strs p.flags),.sl (strs p.params),.sl code]
structure Cp.Ok (p:Cp):Prop where
 v:p.vars.length≤1000
 t:p.tables.length≤1000
 f:p.flags.length≤1000
 p:p.params.length≤1000
def p6(p:Cp)(code:List (List D))(m:Nat)(o:List D):Prop:=∃eS,o=gC p eS∧fO eS∧code.length≤eS.length∧eS.length≤code.length+m
theorem cw4{L op:Nat}{a b n:Int}(h1:op≤34)(h2:op≠27∧op≠28∧op≠32∧op≠33)(h3:0≤n)(h4:n≤8):sB L [bD op,.int .i64 a,.int .i64 b,.int .i64 n]:=⟨op,a,b,n,rfl,h1,fun h=>by omega,fun h=>by omega,h3,h4⟩
end
end Go.Proofs.YtaginlnifpbfgaaGreatDoor
