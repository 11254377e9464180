/- What these functions answer. -/
import Derived.Test.YtaginlnifpbfgaaGreatDoorP1
import Derived.Test.YtaginlnifpbfgaaGreatDoorA0
import Derived.KernelRfl
import Derived.Test.YtaginlnifpbfgaaGreatDoorP6
set_option linter.unusedVariables false
set_option linter.unusedSimpArgs false
set_option maxHeartbeats 4000000
set_option maxRecDepth 100000
namespace Go.Proofs.YtaginlnifpbfgaaGreatDoor
open Go.Ex Go.RowKit
noncomputable section
def yp(k:xO)(l:List D):Prop:=∀d∈l,lZ k d
theorem Ba{k:xO}{d:D}(h:lZ k d):d.cell=true:=by obtain⟨n,rfl,_⟩:=h;rfl
def dg(ks:List (Option xO))(env:List D):Prop:=ks.length=env.length∧∀(i:Nat) (k:xO),ks[i]? =some (some k)→∃d,env[i]? =some d∧lZ k d
theorem dg.app{a b:List (Option xO)}{x y:List D}(h:dg a x)(g:dg b y):dg (a++b) (x++y):=by
 refine⟨by simp[h.1,g.1],fun i k hi=> ?_⟩;by_cases hl:i<a.length
 ·rw[xw hl] at hi;obtain⟨d,h1,h2⟩:=h.2 i k hi;exact⟨d,by rw[xw (by rw[←h.1];exact hl)];exact h1,h2⟩
 ·rw[xq (by omega)] at hi;obtain⟨d,h1,h2⟩:=g.2 _ k hi;exact⟨d,by rw[xq (by rw[←h.1];omega),←h.1];exact h1,h2⟩
theorem dg.pS{k:xO}{l:List D}{n:Nat}(hn:l.length=n)(h:yp k l):dg (List.replicate n (some k)) l:=by
 refine⟨by simp[hn],fun i k' hi=> ?_⟩;have hl:=(xe.1 hi).1;rw[List.length_replicate] at hl;rw[List.getElem?_replicate,if_pos hl] at hi;cases hi;have bG:i<l.length:=by omega
 exact⟨l[i],xc bG,h _ (List.getElem_mem bG)⟩
theorem dg.one{k:xO}{d:D}(h:lZ k d):dg [some k] [d]:=dg.pS (n:=1) rfl (fun x hx=>by rw[xy] at hx;subst hx;exact h)
theorem dg.o6{d:D}:dg [none] [d]:=⟨rfl,fun i k hi=>by cases i with|zero=>simp at hi|succ i=>simp at hi⟩
def k9(l:List (Option xO)):Nat→T (Option xO)→T (Option xO):=List.rec (motive:=fun _=>Nat→T (Option xO)→T (Option xO)) (fun _ t=>t) (fun x _ ih i t=>ih (Nat.succ i) (t.set i x)) l
theorem OE(c:Nat)(k:xO):∀(l:List (Option xO)) (i:Nat) (t:T (Option xO)),T.get none (k9 l i t) c=some k→(∃j,l[j]? =some (some k)∧c=i+j)∨T.get none t c=some k
 |[],i,t,h=> .inr h
 |x::l,i,t,h=>by
  have h':T.get none (k9 l (i+1) (t.set i x)) c=some k:=h;rcases OE c k l (i+1) (t.set i x) h' with⟨j,h1,h2⟩|h1
  ·exact .inl ⟨j+1,by simpa using h1,by omega⟩
  ·by_cases hc:i=c
   ·subst hc;rcases T.yU none t i x with e|⟨e,_⟩
    ·rw[e] at h1;subst h1;exact .inl ⟨0,rfl,rfl⟩
    ·rw[e] at h1;cases h1
   ·rw[T.wc none t i c x hc] at h1;exact .inr h1
def Fq(l:List (Option xO)):T (Option xO):=k9 l 0 (T.full none 12)
theorem PW{ks:List (Option xO)}{env:List D}(h:dg ks env):∀(c:Nat) (k:xO),T.get none (Fq ks) c=some k→∃d,env[c]? =some d∧lZ k d:=fun c k hc=>by
 rcases OE c k ks 0 _ hc with⟨j,h1,h2⟩|h1
 ·rw[Nat.zero_add] at h2;subst h2;exact h.2 _ k h1
 ·rcases T.CY (none:Option xO) none 12 c with e|e<;>(rw[e] at h1;cases h1)
def rL(K:T (Option xO))(l:List xM):Option (List xO):=List.rec (motive:=fun _=>Option (List xO)) (some []) (fun v _ ih=>match ym K v,ih with|some k,some r=>some (k::r)|_,_=>none) l
def gG:List xO→List D→Prop|[],[]=>True|k::ks,d::ds=>lZ k d∧gG ks ds|_,_=>False
theorem A6{K:T (Option xO)}{env:List D}(he:∀c k,T.get none K c=some k→∃d,env[c]? =some d∧lZ k d):∀(l:List xM) (ks:List xO),rL K l=some ks→∃ds,aX (bP (lk env)) l=some ds∧gG ks ds
 |[],ks,h=>by cases h;exact⟨[],rfl,trivial⟩
 |v::l,ks,h=>by
  have h':(match ym K v,rL K l with|some k,some r=>some (k::r)|_,_=>none)=some ks:=h;split at h'
  ·rename_i k r hk hr;cases h';obtain⟨ds,h1,h2⟩:=A6 he l r hr;have hv:∃n:Nat,bP (lk env) v=some (.int k (.ofNat n))∧n<mk k:=by
    unfold ym at hk;split at hk
    ·rename_i c;obtain⟨d,h1,n,rfl,h3⟩:=he c k hk;refine⟨n,?_,h3⟩;show(env[c]?).bind _=_;rw[h1];rfl
    ·rename_i k0 n;rcases au hk with⟨h1,h2⟩|⟨_,h2⟩<;>cases h2
     exact⟨n,rfl,xh h1⟩
    ·cases hk
   obtain⟨n,e1,e2⟩:=hv;exact⟨_::ds,by simp only [aX,e1,h1],⟨n,rfl,e2⟩,h2⟩
  ·cases h'
theorem gG.app:∀{a b:List xO} {l:List D},gG (a++b) l→∃x y,l=x++y∧gG a x∧gG b y
 |[],b,l,h=>⟨[],l,rfl,trivial,h⟩
 |k::a,b,[],h=>h.elim
 |k::a,b,d::l,h=>by
  obtain⟨x,y,rfl,h1,h2⟩:=gG.app (a:=a) h.2;exact⟨d::x,y,rfl,⟨h.1,h1⟩,h2⟩
theorem gG.pS{k:xO}:∀{n:Nat} {l:List D},gG (List.replicate n k) l→l.length=n∧yp k l
 |0,[],_=>⟨rfl,fun d h=>by cases h⟩
 |0,_::_,h=>h.elim
 |n+1,[],h=>h.elim
 |n+1,d::l,h=>by
  obtain⟨h1,h2⟩:=gG.pS (n:=n) h.2;exact⟨by simp[h1],fun x hx=>by
   rcases xG.1 hx with rfl|hx
   ·exact h.1
   ·exact h2 x hx⟩
theorem dq{l r:List D}{i:Nat}{d:D}(h:l[i]? =some d):(l++r)[i]? =some d:=by
 rw[xw (xe.1 h).1];exact h
theorem ko{l:List D}{n:Nat}{d:D}(h:l.length=n):(l++[d])[n]? =some d:=by
 rw[xq (by omega),h,Nat.sub_self];rfl
theorem d1{env:List D}{i:Nat}{d:D}(h:env[i]? =some d)(hc:d.cell=true):bP (lk env) (cd i)=some d:=by
 show(env[i]?).bind _=_;rw[h,xB,if_pos hc]
theorem d2{env:List D}{i:Nat}{d:D}(h:env[i]? =some d)(hc:d.cell=true):cb (lk env) (cd i)=some d:=d1 h hc
def CS:Nat→Nat→List xM|_,0=>[]|a,n+1=>cd a::CS (a+1) n
theorem W7{env:List D}:∀(lI:List D) (a:Nat),(∀i d,lI[i]? =some d→env[a+i]? =some d∧d.cell=true)→aX (cb (lk env)) (CS a lI.length)=some lI
 |[],a,_=>rfl
 |d::lI,a,h=>by
  have h0:=h 0 d rfl;have h1:=W7 lI (a+1) (fun i x hx=>by
   have:=h (i+1) x (by simpa using hx);rw[show a+1+i=a+(i+1) by omega];exact this)
  show(match cb (lk env) (cd a),aX (cb (lk env)) (CS (a+1) lI.length) with|some x,some r=>some (x::r)|_,_=>none)=_;rw[h1,d2 h0.1 h0.2]
theorem Bb{env:List D}:∀(lI:List D) (a:Nat),(∀i d,lI[i]? =some d→env[a+i]? =some d∧d.cell=true)→aX (bP (lk env)) (CS a lI.length)=some lI
 |[],a,_=>rfl
 |d::lI,a,h=>by
  have h0:=h 0 d rfl;have h1:=Bb lI (a+1) (fun i x hx=>by
   have:=h (i+1) x (by simpa using hx);rw[show a+1+i=a+(i+1) by omega];exact this)
  show(match bP (lk env) (cd a),aX (bP (lk env)) (CS (a+1) lI.length) with|some x,some r=>some (x::r)|_,_=>none)=_;rw[h1,d1 h0.1 h0.2]
theorem eB{g:xM→Option D}{v:xM}{l:List xM}{d:D}{ds:List D}(h:g v=some d)(hl:aX g l=some ds):aX g (v::l)=some (d::ds):=by
 simp only [aX,h,hl]
def jS:List xO:=List.replicate 8 .u32++(List.replicate 64 .u8++[.u64])
structure HS (ws bs:List D) (fJ:D):Prop where
 w:ws.length=8
 b:bs.length=64
 aw:yp .u32 ws
 ab:yp .u8 bs
 t:lZ .u64 fJ
theorem HS.of{l:List D}(h:gG jS l):∃ws bs fJ,l=ws++(bs++[fJ])∧HS ws bs fJ:=by
 obtain⟨ws,r,rfl,h1,h2⟩:=gG.app h;obtain⟨bs,t,rfl,h3,h4⟩:=gG.app h2;obtain⟨e1,e2⟩:=h1.pS;obtain⟨e3,e4⟩:=h3.pS
 match t,h4 with
 |[fJ],h4=>exact⟨ws,bs,fJ,rfl,e1,e3,e2,e4,h4.1⟩
 |[],h4=>exact h4.elim
 |_::_::_,h4=>exact h4.2.elim
def BR(rows:List (List D)):Prop:=∀row∈rows,∃d,row=[d]∧lZ .u8 d
theorem BR.drop{rows:List (List D)}(h:BR rows)(n:Nat):BR (rows.drop n):=fun row hr=>h row (List.mem_of_mem_drop hr)
theorem BR.all{rows:List (List D)}(h:BR rows):rows.all (fun r=>r.length==1&&r.all D.cell)=true:=by
 rw[List.all_eq_true];intro row hr;obtain⟨d,rfl,hd⟩:=h row hr;simp[Ba hd]
theorem BR.flat:∀{rows:List (List D)},BR rows→rows.flatten.length=rows.length∧yp .u8 rows.flatten
 |[],_=>⟨rfl,fun d h=>by simp at h⟩
 |row::rows,h=>by
  obtain⟨d,rfl,hd⟩:=h row (by simp);obtain⟨h1,h2⟩:=BR.flat (rows:=rows) (fun r hr=>h r (by simp[hr]));exact⟨by simp[h1],fun x hx=>by
   rw[List.flatten_cons,xF] at hx;rcases hx with hx|hx
   ·rw[xy] at hx;subst hx;exact hd
   ·exact h2 x hx⟩
theorem bA0{rows:List (List D)}{eu:List D}{a:Nat}(h:BR rows)(ho:yp .u8 eu)(hl:eu.length=64)(ha:a≤64):
 ∃dw,aU (.FX 64) (jD a:: .sl rows::eu)=some (.agg (jD (min rows.length (64 - a))::dw))∧dw.length=64∧yp .u8 dw:=by
 refine⟨_,show(if rows.all (fun r=>r.length==1&&r.all D.cell)=true∧a≤64∧eu.length=64 then some (D.agg (.int .i64 (min rows.length (64 - a):Nat)::(eu.take a++(rows.take (64 - a)).flatten++eu.drop (a+min rows.length (64 - a))))) else none)=_ by rw[if_pos ⟨h.all,ha,hl⟩],?_,?_⟩
 ·have hb:BR (rows.take (64 - a)):=fun r hr=>h r (List.mem_of_mem_take hr)
  rw[xa,xa,hb.flat.1,xz,xz,List.length_drop];omega
 ·have hb:BR (rows.take (64 - a)):=fun r hr=>h r (List.mem_of_mem_take hr)
  intro d hd;rw[xF,xF] at hd;rcases hd with(hd|hd)|hd
  ·exact ho d (List.mem_of_mem_take hd)
  ·exact hb.flat.2 d hd
  ·exact ho d (List.mem_of_mem_drop hd)
theorem C2:∀(l:List D) (n:Nat),l.length=n→(∀d∈l,d.cell=true)→iy (List.replicate n no) l=true
 |[],n,h,_=>by subst h;rfl
 |d::l,n,h,hc=>by
  subst h;show(d.cell&&iy (List.replicate l.length no) l)=true;rw[hc d (by simp),C2 l l.length rfl (fun x hx=>hc x (by simp[hx]))];rfl
abbrev NO:List (Option xO):=[none]++(List.replicate 8 (some .u32)++(List.replicate 64 (some .u8)++([some .u64]++([none]++([none]++([none]++([some .i64]++(List.replicate 64 (some .u8)++[none]))))))))
abbrev L1:ur:=[(.nD .u64,[cd 77]),(.bin .add 0,[cd 73,cd 143])]
def Fe(t:DT):List xM:=match t with| .jump _ _ _ _ us=>us.tail|_=>[]
def KY(x:Option (List xO)):Bool:=match x with|some l=>decide (l=jS)|none=>false
theorem V0{x:Option (List xO)}(h:KY x=true):x=some jS:=by
 unfold KY at h;split at h
 ·rw[of_decide_eq_true h]
 ·cases h
def aE3:Bool:=match vf L1 (Fq NO) 143 with
 |some (K1,n)=>Nat.beq n 145&& (KY (rL K1 (Fe Gc))&& (match vf (HT (I0 CO)) K1 146 with|some (K2,_)=>KY (rL K2 (Fe Gw))|none=>false))
 |none=>false
theorem aR3:aE3=true:=by kernel_rfl
theorem gG.PV{k:xO}:∀(n:Nat) (l:List D) {ks:List xO} {r:List D},l.length=n→yp k l→gG ks r→gG (List.replicate n k++ks) (l++r)
 |0,l,ks,r,hl,_,h=>by rw[xA hl];exact h
 |n+1,[],ks,r,hl,_,h=>by simp at hl
 |n+1,d::l,ks,r,hl,ha,h=>⟨ha d (by simp),gG.PV n l (by simpa using hl) (fun x hx=>ha x (by simp[hx])) h⟩
theorem HS.us{ws bs:List D}{fJ:D}(h:HS ws bs fJ):gG jS (ws++(bs++[fJ])):=gG.PV 8 ws h.w h.aw (gG.PV 64 bs h.b h.ab ⟨h.t,trivial⟩)
theorem HS.cells{ws bs:List D}{fJ:D}(h:HS ws bs fJ):∀d∈ws++(bs++[fJ]),d.cell=true:=fun d hd=>by
 rw[xF,xF,xy] at hd;rcases hd with hd|hd|rfl
 ·exact Ba (h.aw d hd)
 ·exact Ba (h.ab d hd)
 ·exact Ba h.t
theorem HS.len{ws bs:List D}{fJ:D}(h:HS ws bs fJ):(ws++(bs++[fJ])).length=73:=by
 rw[xa,xa,h.w,h.b];rfl
theorem aR4:∃K1 K2 n2,vf L1 (Fq NO) 143=some (K1,145)∧rL K1 (Fe Gc)=some jS∧vf (HT (I0 CO)) K1 146=some (K2,n2)∧rL K2 (Fe Gw)=some jS:=by
 have h:=aR3;unfold aE3 at h;split at h
 ·rename_i K1 n h1;simp only [xf] at h;obtain⟨e1,e2,e3⟩:=h;have e1:=xb e1;subst e1;split at e3
  ·rename_i K2 n2 h2;exact⟨K1,K2,n2,h1,V0 e2,h2,V0 e3⟩
  ·cases e3
 ·cases h
section
variable{X:Nat→List D→Option (List D)}
theorem bi6:∀(n:Nat) (rows:List (List D)) (ws bs:List D) (fJ:D),rows.length≤n→n≤1000000000000→BR rows→HS ws bs fJ→Rn F X 117 1 (.sl rows::(ws++(bs++[fJ]))) (fun o=>gG jS o):=by
 intro n;obtain⟨K1,K2,n2,IW,hU1,IV,hU2⟩:=aR4
 induction n with
 |zero=>
  intro rows ws bs fJ hn _ hb hs;obtain rfl:rows=[]:=xA (by omega);have hl:=hs.len;have hc:=hs.cells;have pV:=hs.us;generalize ws++(bs++[fJ])=st at*;refine wR rfl (by show st.length+1=74;omega)<|Wp.op (ds:=[.sl []]) rfl bf rfl ?_;have FO:((D.sl []::st)++[jD 0])[74]? =some (jD 0):=ko (by simp[hl]);refine Wp.I9 (eB (d2 FO rfl) rfl) rfl ?_;have hd:=Bb (env:=(D.sl []::st)++[jD 0]) st 1 (fun i d hi=>⟨dq (by rw[Nat.add_comm];simpa using hi),hc d (xu hi)⟩);rw[hl] at hd;exact Wp.ret hd pV
 |succ n ih=>
  intro rows ws bs fJ hn jk hb hs;have hl:=hs.len;have hc:=hs.cells;have pV:=hs.us;obtain⟨hw,FJ,haw,IU,T0,rfl,hT⟩:=hs;have FP:(D.sl rows::(ws++(bs++[D.int .u64 (.ofNat T0)])))[73]? =some (D.int .u64 (.ofNat T0)):=by
   rw[List.getElem?_cons_succ,xq (by omega),xq (by omega),hw,FJ];rfl
  have gbs:∀(i:Nat) (d:D),bs[i]? =some d→(D.sl rows::(ws++(bs++[D.int .u64 (.ofNat T0)])))[9+i]? =some d∧d.cell=true:=fun i d hi=>by
   refine⟨?_,Ba (IU d (xu hi))⟩;rw[show 9+i=8+i+1 by omega,List.getElem?_cons_succ,xq (by omega),hw,Nat.add_sub_cancel_left];exact dq hi
  have jQ:dg ([none]++(List.replicate 8 (some .u32)++(List.replicate 64 (some .u8)++[some .u64]))) (D.sl rows::(ws++(bs++[D.int .u64 (.ofNat T0)]))):=dg.app (x:=[D.sl rows]) dg.o6 (dg.app (dg.pS hw haw) (dg.app (dg.pS FJ IU) (dg.one ⟨T0,rfl,hT⟩)));have AR:(D.sl rows::(ws++(bs++[D.int .u64 (.ofNat T0)]))).length=74:=by show _+1=74;omega
  have at4:=Bb (env:=(D.sl rows::(ws++(bs++[D.int .u64 (.ofNat T0)])))++[jD rows.length]) (ws++(bs++[D.int .u64 (.ofNat T0)])) 1 (fun i d hi=>⟨dq (by rw[Nat.add_comm];simpa using hi),hc d (xu hi)⟩);rw[hl] at at4;refine wR rfl AR<|Wp.op (ds:=[.sl rows]) rfl bf rfl ?_;have g0:(D.sl rows::(ws++(bs++[D.int .u64 (.ofNat T0)])))[0]? =some (D.sl rows):=rfl;generalize dk2:(D.sl rows::(ws++(bs++[D.int .u64 (.ofNat T0)])))=E0 at*;have FO:(E0++[jD rows.length])[74]? =some (jD rows.length):=ko AR;by_cases hr:rows.length=0
  ·exact Wp.iG (eB (d2 FO rfl) rfl) (c7 (a:=(rows.length:Int)) (b:=0)) (by omega)<|Wp.ret at4 pV
  refine Wp.fR (eB (d2 FO rfl) rfl) (c7 (a:=(rows.length:Int)) (b:=0)) (by omega)<|Wp.op (eB (d2 (dq FP) rfl) rfl) (kz (a:=T0) (b:=64) .u64 (by omega)) rfl ?_;have ha:T0%64<64:=Nat.mod_lt _ (by omega);generalize hga:T0%64=a at*;have NB:(E0++[jD rows.length]).length=75:=by simp[AR]
  have Uk:=ko (d:=D.int .u64 ((a:Nat):Int)) NB;have yH:aU (.nD .i64) [D.int .u64 ((a:Nat):Int)]=some (jD a):=by
   show some (D.int .i64 (IntKind.i64.wrap (a:Int)))=_;rw[IntWalk.i64_in _ (by omega)]
  refine Wp.op (eB (d2 Uk rfl) rfl) yH rfl ?_;have NA:(E0++[jD rows.length]++[D.int .u64 ((a:Nat):Int)]).length=76:=by simp[AR]
  have yJ:=ko (d:=jD a) NA;have rC:aU .kW [D.int .i64 64,jD a]=some (.bool true):=by
   show some (D.bool (decide (a<64)))=_;rw[decide_eq_true ha]
  refine Wp.CT (eB rfl (eB (d2 yJ rfl) rfl)) rC ?_;obtain⟨dw,hcp,kv,hnu⟩:=bA0 hb IU FJ (Nat.le_of_lt ha);have Cg:1≤min rows.length (64 - a)∧min rows.length (64 - a)≤rows.length∧min rows.length (64 - a)≤64:=by omega
  generalize hgc:min rows.length (64 - a)=iX at*;have gj:aX (cb (lk (E0++[jD rows.length]++[D.int .u64 ((a:Nat):Int)]++[jD a]))) (cd 76::cd 0::CS 9 64)=some (jD a:: .sl rows::bs):=by
   have h9:=W7 (env:=E0++[jD rows.length]++[D.int .u64 ((a:Nat):Int)]++[jD a]) bs 9 (fun i d hi=>⟨dq (dq (dq (gbs i d hi).1)),(gbs i d hi).2⟩);rw[FJ] at h9;exact eB (d2 yJ rfl) (eB (d2 (dq (dq (dq g0))) rfl) h9)
  refine Wp.aF gj hcp (C2 _ 65 (by simp[kv]) (fun d hd=>by
   rcases xG.1 hd with rfl|hd
   ·rfl
   ·exact Ba (hnu d hd))) ?_
  have AQ:(E0++[jD rows.length]++[D.int .u64 ((a:Nat):Int)]++[jD a]).length=77:=by simp[AR]
  have IK:dg ([none]++(List.replicate 8 (some .u32)++(List.replicate 64 (some .u8)++[some .u64]))++[none]++[none]++[none]) (E0++[jD rows.length]++[D.int .u64 ((a:Nat):Int)]++[jD a]):=((jQ.app dg.o6).app dg.o6).app dg.o6;have dl1:=dq (r:=[jD a]) (dq (r:=[D.int .u64 ((a:Nat):Int)]) (dq (r:=[jD rows.length]) FP));have g0':=dq (r:=[jD a]) (dq (r:=[D.int .u64 ((a:Nat):Int)]) (dq (r:=[jD rows.length]) g0));generalize dk1:E0++[jD rows.length]++[D.int .u64 ((a:Nat):Int)]++[jD a]=E3 at*;have CP:(E3++(jD iX::dw))[77]? =some (jD iX):=by
   rw[xq (by omega),AQ];rfl
  have fp:aU (.iF 1) [.sl rows,jD iX]=some (.sl (rows.drop iX)):=JV (by omega) (fun row h=>by obtain⟨d,rfl,_⟩:=hb row h;rfl);refine Wp.op (eB (d2 (dq g0') rfl) (eB (d2 CP rfl) rfl)) fp rfl ?_;have CF:(E3++(jD iX::dw)).length=142:=by simp[AQ,kv]
  have CE:(E3++(jD iX::dw)++[D.sl (rows.drop iX)]).length=143:=by simp[AQ,kv]
  have hk5:dg NO (E3++(jD iX::dw)++[D.sl (rows.drop iX)]):=(IK.app (dg.app (x:=[jD iX]) (dg.one ⟨iX,rfl,by show iX<18446744073709551616;omega⟩) (dg.pS kv hnu))).app dg.o6;have cR6:=ko (d:=D.sl (rows.drop iX)) CF;have cR4:=dq (r:=[D.sl (rows.drop iX)]) (dq (r:=jD iX::dw) yJ);have cR3:=dq (r:=[D.sl (rows.drop iX)]) CP;generalize dk0:E3++(jD iX::dw)++[D.sl (rows.drop iX)]=E5 at*;show Wp F X 117 (GM L1 (.op (.bin .add 0) [cd 76,cd 77] (.br (.bin .eql 0) [cd 145,.int .i64 64] (GM (HT (I0 CO)) Gw) Gc))) E5 _;refine Be L1 (Fq NO) K1 143 145 E5 CE (PW hk5) IW (fun new q1 q2=> ?_);refine Wp.op (eB (d2 (dq cR4) rfl) (eB (d2 (dq cR3) rfl) rfl)) (m4 (a:=a) (b:=iX) (by omega)) rfl ?_;have cR5:=ko (d:=jD (a+iX)) q1;have ZZ:=dq (r:=[jD (a+iX)]) (dq (r:=new) cR6);have fin:∀(K:T (Option xO)) (us:List xM) (env:List D),(∀c k,T.get none K c=some k→∃d,env[c]? =some d∧lZ k d)→rL K us=some jS→env[142]? =some (D.sl (rows.drop iX))→∃ds,aX (bP (lk env)) (cd 142::us)=some ds∧Rn F X 117 1 ds (fun o=>gG jS o):=fun K us env h1 h2 h3=>by
   obtain⟨ds,e1,e2⟩:=A6 h1 us jS h2;obtain⟨ws',eQ,cv8,rfl,e3⟩:=HS.of e2;exact⟨_,eB (d1 h3 rfl) e1,ih (rows.drop iX) ws' eQ cv8 (by rw[List.length_drop];omega) (by omega) (hb.drop iX) e3⟩
  have vL:∀c k,T.get none K1 c=some k→∃d,(E5++new++[jD (a+iX)])[c]? =some d∧lZ k d:=fun c k pc=>(q2 c k pc).imp fun d ⟨h1,h2⟩=>⟨dq h1,h2⟩
  refine Wp.bh (eB (d2 cR5 rfl) rfl) (ay (a:=((a+iX:Nat):Int)) (b:=64)) (fun _=> ?_) (fun _=> ?_)
  ·refine Be (HT (I0 CO)) K1 K2 146 n2 _ (by rw[xa,q1];rfl) vL IV (fun ap5 r1 r2=> ?_);obtain⟨ds,e1,e2⟩:=fin K2 (Fe Gw) _ r2 hU2 (dq ZZ);exact Wp.jump e1 e2
  ·obtain⟨ds,e1,e2⟩:=fin K1 (Fe Gc) _ vL hU1 ZZ;exact Wp.jump e1 e2
end
def EG:Nat→DT→ur|0,_=>[]|n+1,.op k a t=>(k,a)::EG n t|_,_=>[]
def sA:Nat→DT→DT|0,t=>t|n+1,.op _ _ t=>sA n t|_,t=>t
theorem F6:∀(n:Nat) (t:DT),GM (EG n t) (sA n t)=t
 |0,t=>rfl
 |n+1,.op k a t=>congrArg (DT.op k a) (F6 n t)
 |n+1,.aF .. =>rfl
 |n+1,.br .. =>rfl
 |n+1,.sw .. =>rfl
 |n+1,.note .. =>rfl
 |n+1,.call .. =>rfl
 |n+1,.jump .. =>rfl
 |n+1,.ret .. =>rfl
 |n+1,.stop=>rfl
theorem Wu{K:T (Option xO)}{env o:List D}{l:List (Option xO)}{n:Nat}(hn:env.length=n)(he:∀c k,T.get none K c=some k→∃d,env[c]? =some d∧lZ k d)(hk:dg l o):∀(c:Nat) (k:xO),T.get none (k9 l n K) c=some k→∃d,(env++o)[c]? =some d∧lZ k d:=fun c k hc=>by
 rcases OE c k l n K hc with⟨j,h1,h2⟩|h1
 ·obtain⟨d,h3,h4⟩:=hk.2 j k h1;refine⟨d,?_,h4⟩;rw[h2,←hn,xq (by omega),Nat.add_sub_cancel_left];exact h3
 ·obtain⟨d,h3,h4⟩:=he c k h1;exact⟨d,dq h3,h4⟩
theorem dg.us:∀{ks:List xO} {l:List D},gG ks l→dg (ks.map some) l
 |[],[],_=>⟨rfl,fun i k h=>by simp at h⟩
 |[],_::_,h=>h.elim
 |_::_,[],h=>h.elim
 |k::ks,d::l,h=>dg.app (a:=[some k]) (x:=[d]) (dg.one h.1) (dg.us h.2)
theorem Lu{δ:Nat→Option D}:∀{l:List xM} {ds:List D},aX (bP δ) l=some ds→aX (cb δ) l=some ds
 |[],ds,h=>h
 |v::l,ds,h=>by
  obtain⟨d,r,rfl,h1,h2⟩:=jB h;exact eB (zh h1) (Lu h2)
theorem De{g:xM→Option D}:∀{a b:List xM} {x y:List D},aX g a=some x→aX g b=some y→aX g (a++b)=some (x++y)
 |[],b,x,y,h,h2=>by cases h;exact h2
 |v::a,b,x,y,h,h2=>by
  obtain⟨d,r,rfl,h1,h3⟩:=jB h;exact eB h1 (De h3 h2)
theorem Qv:∀(n:Nat) (ds:List D),ds.length=n→u3 1 n ds=some (ds.map fun d=>[d])
 |0,[],_=>rfl
 |0,_::_,h=>by simp at h
 |n+1,[],h=>by simp at h
 |n+1,d::ds,h=>by
  have:=Qv n ds (by simpa using h);show(if 1≤(d::ds).length then(u3 1 n ds).map fun r=>[d]::r else none)=_;rw[if_pos (by simp),this];rfl
theorem BR.map{ds:List D}(h:yp .u8 ds):BR (ds.map fun d=>[d]):=fun row hr=>by
 obtain⟨d,hd,rfl⟩:=xJ.1 hr;exact⟨d,rfl,h d hd⟩
theorem BR.app{a b:List (List D)}(h:BR a)(g:BR b):BR (a++b):=fun row hr=>by
 rcases xF.1 hr with hr|hr
 ·exact h row hr
 ·exact g row hr
theorem BR.pS{m:Nat}:BR (List.replicate m [D.int .u8 0]):=fun row hr=>by
 rw[(List.mem_replicate.1 hr).2];exact⟨_,rfl,0,rfl,by decide⟩
theorem BR.set{a:List (List D)}(h:BR a)(i:Nat):BR (a.set i [D.int .u8 128]):=fun row hr=>by
 rcases List.mem_or_eq_of_mem_set hr with hr|rfl
 ·exact h row hr
 ·exact⟨_,rfl,128,rfl,by decide⟩
theorem WH{a b:List (List D)}(hb:BR b)(h:a.length+b.length≤1000):aU (.app 1 1) [.sl a,.sl b]=some (.sl (a++b)):=by
 show(if b.all (fun r=>r.length==1&&r.all D.cell) then some b else none).bind (fun q=>if jI (a.length+q.length) 1 then some (D.sl (a++q)) else none)=_;rw[if_pos hb.all];show(if jI (a.length+b.length) 1 then _ else _)=_;rw[if_pos (by unfold jI;simp;omega)]
def Cs(x:Option (List xO))(l:List xO):Bool:=match x with|some r=>decide (r=l)|none=>false
theorem GO{x:Option (List xO)}{l:List xO}(h:Cs x l=true):x=some l:=by
 unfold Cs at h;split at h
 ·rw[of_decide_eq_true h]
 ·cases h
section
variable{X:Nat→List D→Option (List D)}
theorem PF{rows:List (List D)}{ws bs:List D}{fJ:D}(hr:rows.length≤1000000000000)(hb:BR rows)(hs:HS ws bs fJ):Rn F X 117 0 ((ws++(bs++[fJ]))++[.sl rows]) (fun o=>gG jS o):=by
 have h1:=bi6 (X:=X) _ rows ws bs fJ (xk _) hr hb hs;have hl:=hs.len;have hc:=hs.cells;generalize ws++(bs++[fJ])=st at*;refine wR rfl (by simp[hl]) ?_;have hd:=Bb (env:=st++[.sl rows]) st 0 (fun i d hi=>⟨dq (by rw[Nat.zero_add];exact hi),hc d (xu hi)⟩);rw[hl] at hd;exact Wp.jump (eB (d1 (ko hl) rfl) hd) h1
def a8(t:DT):List xM:=match t with| .note _ (.op _ a _)=>a|_=>[]
def ac9(t:DT):List xM:=match t with| .ret _ _ us=>us|_=>[]
def MD:DT:= .op (.bin .shl 0) [cd 73,.int .u64 3] Wx
def aE4:Bool:=match vf (EG 17 MD) (Fq ([none]++(jS.map some++List.replicate 7 none))) 81 with
 |some (K1,n)=>Nat.beq n 98&& (Cs (rL K1 (a8 (sA 17 MD))) (List.replicate 8 .u8)&& (match vf (EG 56 JQ) (k9 (jS.map some) 100 K1) 173 with
  |some (K2,_)=>Cs (rL K2 (ac9 (sA 56 JQ))) (List.replicate 32 .u8)
  |none=>false))
 |none=>false
theorem aR5:aE4=true:=by kernel_rfl
theorem bD0{env:List D}{st:List D}{q:List (List D)}(aQ:gG jS st)(hE:env.length=81)(hk:dg ([none]++(jS.map some++List.replicate 7 none)) env)(hs:∀i d,st[i]? =some d→env[1+i]? =some d)(hq:env[80]? =some (.sl q))(hb:BR q)(hql:q.length≤100):Wp F X 114 MD env (fun o=>gG (List.replicate 32 .u8) o):=by
 have h:=aR5;unfold aE4 at h;split at h;rotate_left
 ·cases h
 rename_i K1 n IW;simp only [xf] at h;obtain⟨e1,e2,e3⟩:=h;have e1:=xb e1;subst e1;have e2:=GO e2;split at e3;rotate_left
 ·cases e3
 rename_i K2 n2 IV;have e3:=GO e3;obtain⟨ws,bs,fJ,rfl,hh⟩:=HS.of aQ;rw[←F6 17 MD];refine Be _ _ K1 81 98 env hE (PW hk) IW (fun new q1 q2=> ?_);refine wg 1 rfl ?_;obtain⟨ds,f1,f2⟩:=A6 q2 _ _ e2;obtain⟨f3,f4⟩:=f2.pS (n:=8);refine Wp.op (Lu f1) (d:= .sl (ds.map fun d=>[d])) (show(if ds.length=8*1 then(u3 1 8 ds).map D.sl else none)=_ by rw[if_pos f3,Qv 8 ds f3];rfl) rfl<|Wp.op (eB (d2 (dq (dq hq)) rfl) (eB (d2 (ko q1) rfl) rfl)) (WH (BR.map f4) (by rw[xm,f3];omega)) rfl<|wg 1 rfl ?_;have It:(env++new++[D.sl (ds.map fun d=>[d])]++[D.sl (q++ds.map fun d=>[d])]).length=100:=by rw[xa,xa,q1];rfl
 have IT:=Bb (env:=env++new++[D.sl (ds.map fun d=>[d])]++[D.sl (q++ds.map fun d=>[d])]) (ws++(bs++[fJ])) 1 (fun i d hi=>⟨dq (dq (dq (hs i d hi))),hh.cells d (xu hi)⟩);rw[hh.len] at IT;have zT:=ko (l:=env++new++[D.sl (ds.map fun d=>[d])]) (n:=99) (d:=D.sl (q++ds.map fun d=>[d])) (by rw[xa,q1];rfl);have vL:∀c k,T.get none K1 c=some k→∃d,(env++new++[D.sl (ds.map fun d=>[d])]++[D.sl (q++ds.map fun d=>[d])])[c]? =some d∧lZ k d:=fun c k pc=>(q2 c k pc).imp fun d ⟨h1,h2⟩=>⟨dq (dq h1),h2⟩
 refine Wp.call (ds:=(ws++(bs++[fJ]))++[.sl (q++ds.map fun d=>[d])]) (De IT (eB (d1 zT rfl) rfl)) (PF (by rw[xa,xm,f3];omega) (hb.app (BR.map f4)) hh) (fun o ho=> .inl ⟨?_,?_⟩)
 ·obtain⟨w2,b2,t2,rfl,h2⟩:=HS.of ho;exact C2 _ 73 h2.len h2.cells
 rw[←F6 56 JQ];have qx:o.length=73:=by obtain⟨w2,b2,t2,rfl,h2⟩:=HS.of ho;exact h2.len
 refine Be _ _ K2 173 n2 _ (by rw[xa,It,qx]) (Wu It vL (dg.us ho)) IV (fun ap5 r1 r2=> ?_);obtain⟨ds2,g1,g2⟩:=A6 r2 _ _ e3;exact Wp.ret g1 g2
def ME:DT:= .op (.bin .shl 0) [cd 73,.int .u64 3] Ww
def aE5:Bool:=match vf (EG 17 ME) (Fq ([none]++(jS.map some++List.replicate 6 none))) 80 with
 |some (K1,n)=>Nat.beq n 97&& (Cs (rL K1 (a8 (sA 17 ME))) (List.replicate 8 .u8)&& (match vf (EG 56 JP) (k9 (jS.map some) 99 K1) 172 with
  |some (K2,_)=>Cs (rL K2 (ac9 (sA 56 JP))) (List.replicate 32 .u8)
  |none=>false))
 |none=>false
theorem aR6:aE5=true:=by kernel_rfl
theorem bD1{env:List D}{st:List D}{q:List (List D)}(aQ:gG jS st)(hE:env.length=80)(hk:dg ([none]++(jS.map some++List.replicate 6 none)) env)(hs:∀i d,st[i]? =some d→env[1+i]? =some d)(hq:env[79]? =some (.sl q))(hb:BR q)(hql:q.length≤100):Wp F X 114 ME env (fun o=>gG (List.replicate 32 .u8) o):=by
 have h:=aR6;unfold aE5 at h;split at h;rotate_left
 ·cases h
 rename_i K1 n IW;simp only [xf] at h;obtain⟨e1,e2,e3⟩:=h;have e1:=xb e1;subst e1;have e2:=GO e2;split at e3;rotate_left
 ·cases e3
 rename_i K2 n2 IV;have e3:=GO e3;obtain⟨ws,bs,fJ,rfl,hh⟩:=HS.of aQ;rw[←F6 17 ME];refine Be _ _ K1 80 97 env hE (PW hk) IW (fun new q1 q2=> ?_);refine wg 1 rfl ?_;obtain⟨ds,f1,f2⟩:=A6 q2 _ _ e2;obtain⟨f3,f4⟩:=f2.pS (n:=8);refine Wp.op (Lu f1) (d:= .sl (ds.map fun d=>[d])) (show(if ds.length=8*1 then(u3 1 8 ds).map D.sl else none)=_ by rw[if_pos f3,Qv 8 ds f3];rfl) rfl<|Wp.op (eB (d2 (dq (dq hq)) rfl) (eB (d2 (ko q1) rfl) rfl)) (WH (BR.map f4) (by rw[xm,f3];omega)) rfl<|wg 1 rfl ?_;have It:(env++new++[D.sl (ds.map fun d=>[d])]++[D.sl (q++ds.map fun d=>[d])]).length=99:=by rw[xa,xa,q1];rfl
 have IT:=Bb (env:=env++new++[D.sl (ds.map fun d=>[d])]++[D.sl (q++ds.map fun d=>[d])]) (ws++(bs++[fJ])) 1 (fun i d hi=>⟨dq (dq (dq (hs i d hi))),hh.cells d (xu hi)⟩);rw[hh.len] at IT;have zT:=ko (l:=env++new++[D.sl (ds.map fun d=>[d])]) (n:=98) (d:=D.sl (q++ds.map fun d=>[d])) (by rw[xa,q1];rfl);have vL:∀c k,T.get none K1 c=some k→∃d,(env++new++[D.sl (ds.map fun d=>[d])]++[D.sl (q++ds.map fun d=>[d])])[c]? =some d∧lZ k d:=fun c k pc=>(q2 c k pc).imp fun d ⟨h1,h2⟩=>⟨dq (dq h1),h2⟩
 refine Wp.call (ds:=(ws++(bs++[fJ]))++[.sl (q++ds.map fun d=>[d])]) (De IT (eB (d1 zT rfl) rfl)) (PF (by rw[xa,xm,f3];omega) (hb.app (BR.map f4)) hh) (fun o ho=> .inl ⟨?_,?_⟩)
 ·obtain⟨w2,b2,t2,rfl,h2⟩:=HS.of ho;exact C2 _ 73 h2.len h2.cells
 rw[←F6 56 JP];have qx:o.length=73:=by obtain⟨w2,b2,t2,rfl,h2⟩:=HS.of ho;exact h2.len
 refine Be _ _ K2 172 n2 _ (by rw[xa,It,qx]) (Wu It vL (dg.us ho)) IV (fun ap5 r1 r2=> ?_);obtain⟨ds2,g1,g2⟩:=A6 r2 _ _ e3;exact Wp.ret g1 g2
def usC(t:DT):List xM:=match t with| .note _ (.call _ _ us _ _ _)=>us.take 73|_=>[]
theorem bp2:Cs (rL (T.full none 12) (usC Qe)) jS=true:=by kernel_rfl
theorem Xt{n c:Nat}(h:n≤c)(hc:c≤1000):aU (.gR 1 1) [jD n,jD c,.int .u8 0]=some (.sl (List.replicate n [.int .u8 0])):=by
 show(if _ then _ else none)=_;rw[if_pos ⟨rfl,h,by simp[jI];omega⟩]
theorem bm0{rows:List (List D)}(hr:rows.length≤1000000000000)(hb:BR rows):Rn F X 114 0 [.sl rows] (fun o=>gG (List.replicate 32 .u8) o):=by
 refine wr rfl<|wg 1 rfl ?_;obtain⟨ds,f1,f2⟩:=A6 (env:=[D.sl rows]) (K:=T.full none 12) (fun c k h=>by rcases T.CY (none:Option xO) none 12 c with e|e<;>(rw[e] at h;cases h)) (usC Qe) jS (GO bp2);obtain⟨ws,bs,fJ,rfl,hh⟩:=HS.of f2;refine Wp.call (ds:=(ws++(bs++[fJ]))++[.sl rows]) (De f1 (eB (d1 (env:=[D.sl rows]) (i:=0) rfl rfl) rfl)) (PF hr hb hh) (fun o ho=> .inl ⟨?_,?_⟩)
 ·obtain⟨w2,b2,t2,rfl,h2⟩:=HS.of ho;exact C2 _ 73 h2.len h2.cells
 clear f1 f2 hh;have hko:=dg.us ho;have qx:o.length=73:=by obtain⟨w2,b2,t2,rfl,h2⟩:=HS.of ho;exact h2.len
 have FP:∃T0:Nat,([D.sl rows]++o)[73]? =some (D.int .u64 (.ofNat T0)):=by
  obtain⟨d,h1,T0,rfl,h3⟩:=hko.2 72 .u64 rfl;exact⟨T0,by rw[xq (by simp)];exact h1⟩
 obtain⟨T0,FP⟩:=FP;have AR:([D.sl rows]++o).length=74:=by rw[xa,qx];rfl
 have jQ:dg ([none]++jS.map some) ([D.sl rows]++o):=dg.app dg.o6 hko;have Fx:∀i d,o[i]? =some d→([D.sl rows]++o)[1+i]? =some d:=fun i d hi=>by
  rw[xq (by simp),show 1+i - [D.sl rows].length=i by simp];exact hi
 generalize [D.sl rows]++o=E0 at*;have ha:T0%64<64:=Nat.mod_lt _ (by omega);refine Wp.op (eB (d2 FP rfl) rfl) (kz (a:=T0) (b:=64) .u64 (by omega)) rfl ?_;generalize T0%64=a at*;have FO:=ko (d:=D.int .u64 ((a:Nat):Int)) AR;have yH:aU (.nD .i64) [D.int .u64 ((a:Nat):Int)]=some (jD a):=by
  show some (D.int .i64 (IntKind.i64.wrap (a:Int)))=_;rw[IntWalk.i64_in _ (by omega)]
 refine Wp.op (eB (d2 FO rfl) rfl) yH rfl ?_;have NB:(E0++[D.int .u64 ((a:Nat):Int)]).length=75:=by rw[xa,AR];rfl
 have Uk:=ko (d:=jD a) NB;refine Wp.op (eB rfl (eB (d2 Uk rfl) rfl)) (tE (a:=56) (b:=(a:Int)) (by omega) (by omega)) rfl ?_;have NA:(E0++[D.int .u64 ((a:Nat):Int)]++[jD a]).length=76:=by rw[xa,NB];rfl
 have yJ:=ko (d:=D.int .i64 (56 - (a:Int))) NA;have AQ:(E0++[D.int .u64 ((a:Nat):Int)]++[jD a]++[D.int .i64 (56 - (a:Int))]).length=77:=by rw[xa,NA];rfl
 have IK:dg (([none]++jS.map some)++[none]++[none]++[none]) (E0++[D.int .u64 ((a:Nat):Int)]++[jD a]++[D.int .i64 (56 - (a:Int))]):=((jQ.app dg.o6).app dg.o6).app dg.o6;have pU:∀i d,o[i]? =some d→(E0++[D.int .u64 ((a:Nat):Int)]++[jD a]++[D.int .i64 (56 - (a:Int))])[1+i]? =some d:=fun i d hi=>dq (dq (dq (Fx i d hi)))
 generalize E0++[D.int .u64 ((a:Nat):Int)]++[jD a]++[D.int .i64 (56 - (a:Int))]=E3 at*;refine Wp.bh (eB (d2 yJ rfl) rfl) (Xu (a:=56 - (a:Int)) (b:=0)) (fun aK=> ?_) (fun aK=> ?_)
 ·have e1:(56 - (a:Int))+64=((120 - a:Nat):Int):=by omega
  refine Wp.op (eB (d2 yJ rfl) rfl) (d:=jD (120 - a)) (by rw[WI (by omega) (by omega),e1]) rfl ?_;have CP:=ko (d:=jD (120 - a)) AQ;refine Wp.op (eB (d2 CP rfl) rfl) (m4 (a:=120 - a) (b:=8) (by omega)) rfl ?_;have CF:(E3++[jD (120 - a)]).length=78:=by rw[xa,AQ];rfl
  have NE:=ko (d:=jD (120 - a+8)) CF;refine Wp.op (eB (d2 (dq CP) rfl) (eB (d2 NE rfl) rfl)) (Xt (n:=120 - a) (c:=120 - a+8) (by omega) (by omega)) rfl ?_;have CE:(E3++[jD (120 - a)]++[jD (120 - a+8)]).length=79:=by rw[xa,CF];rfl
  have g79:=ko (d:=D.sl (List.replicate (120 - a) [D.int .u8 0])) CE;refine Wp.CT (eB (d2 g79 rfl) rfl) (show some (D.bool (decide (0<(List.replicate (120 - a) [D.int .u8 0]).length)))=_ by rw[List.length_replicate,decide_eq_true (by omega)]) ?_;have aQ:aU (.fk 0) [D.sl (List.replicate (120 - a) [D.int .u8 0]),.int .i64 0,.int .u8 128]=some (.sl ((List.replicate (120 - a) [D.int .u8 0]).set 0 [D.int .u8 128])):=by
   obtain⟨m,hm⟩:∃m,120 - a=m+1:=⟨119 - a,by omega⟩;rw[hm];rfl
  refine Wp.op (eB (d2 g79 rfl) rfl) aQ rfl ?_;have hE6:(E3++[jD (120 - a)]++[jD (120 - a+8)]++[D.sl (List.replicate (120 - a) [D.int .u8 0])]).length=80:=by rw[xa,CE];rfl
  exact bD0 ho (by rw[xa,hE6];rfl) ((((IK.app dg.o6).app dg.o6).app dg.o6).app dg.o6) (fun i d hi=>dq (dq (dq (dq (pU i d hi))))) (ko hE6) (BR.set BR.pS 0) (by rw[xt,List.length_replicate];omega)
 ·have e1:56 - (a:Int)=((56 - a:Nat):Int):=by omega
  rw[e1] at yJ aK;refine Wp.op (eB (d2 yJ rfl) rfl) (m4 (a:=56 - a) (b:=8) (by omega)) rfl ?_;have CP:=ko (d:=jD (56 - a+8)) AQ;refine Wp.op (eB (d2 (dq yJ) rfl) (eB (d2 CP rfl) rfl)) (Xt (n:=56 - a) (c:=56 - a+8) (by omega) (by omega)) rfl ?_;have CF:(E3++[jD (56 - a+8)]).length=78:=by rw[xa,AQ];rfl
  have NE:=ko (d:=D.sl (List.replicate (56 - a) [D.int .u8 0])) CF;refine Wp.CT (eB (d2 NE rfl) rfl) (show some (D.bool (decide (0<(List.replicate (56 - a) [D.int .u8 0]).length)))=_ by rw[List.length_replicate,decide_eq_true (by omega)]) ?_;have aQ:aU (.fk 0) [D.sl (List.replicate (56 - a) [D.int .u8 0]),.int .i64 0,.int .u8 128]=some (.sl ((List.replicate (56 - a) [D.int .u8 0]).set 0 [D.int .u8 128])):=by
   obtain⟨m,hm⟩:∃m,56 - a=m+1:=⟨55 - a,by omega⟩;rw[hm];rfl
  refine Wp.op (eB (d2 NE rfl) rfl) aQ rfl ?_;have CE:(E3++[jD (56 - a+8)]++[D.sl (List.replicate (56 - a) [D.int .u8 0])]).length=79:=by rw[xa,CF];rfl
  exact bD1 ho (by rw[xa,CE];rfl) (((IK.app dg.o6).app dg.o6).app dg.o6) (fun i d hi=>dq (dq (dq (pU i d hi)))) (ko CE) (BR.set BR.pS 0) (by rw[xt,List.length_replicate];omega)
end
open Go.Ex Go.RowKit Go.Fl
section
variable{X:Nat→List D→Option (List D)}
theorem aV6(hX:mV X)(hP:yN X)(hI:yO X)(h7:DN X){f:bq}(hf:uV f):Rn F X 106 0 f.s (CW 500000000):=by
 have c0:=OT hX hf;have L1:LN X 1:=M1 (by omega);have L0:LN X 0:=M1 (by omega);have Nn:=rO hf.name;have h2:=hf.flags.1;have h9:=hf.links.1;have h3:=hf.comps.2.1;have HF:∀(ae pre:List Cm),f.comps=pre++ae→∀t':List UInt8,1≤t'.length→t'.length≤200000+3000000*pre.length→Rn F X 106 3 [.sl (f.comps.map Cm.s),jD f.comps.length,jD pre.length,.sl (bX t'),jD 1] (CW 500000000):=by
  intro ae
  induction ae with
  |nil=>
   intro pre aE t' q1 q2;rw[xj] at aE;have hp':pre.length=f.comps.length:=by rw[aE]
   refine wr rfl<|wn rfl ak<|wo rfl (Dx (a:=1) (b:=1) (by omega) (by omega))<|wg 2 rfl<|wx rfl (L0 [[125]] (by simp) (by simp only [cX,xi,xd];omega) t' (by omega)) fun|_,⟨t3,rfl,Uj,Ui⟩=>⟨rfl,?_⟩
   exact wo rfl (aA (tu _))<|n7<|wy rfl (u4 (k:=0) (tu _))<|wo rfl (VT (by omega))<|wt rfl ⟨t3,rfl,by omega⟩
  |cons a ae dj=>
   intro pre aE t' q1 q2;have aC:=bu aE;have ap:=bR (f:=Cm.s) aE;have next:=dj (pre++[a]) (by rw[aE,bp]);rw[xa] at next;have e1:pre.length+[a].length=pre.length+1:=rfl;rw[e1] at next;have cc:=aS7 (X:=X) hP hI h7 (hf.comps.2.2 a (by rw[aE];simp)) (t:=t') (by omega);obtain⟨a1,a2,a3⟩:=a;refine wr rfl<|wy rfl ak<|wo rfl (aB ap rfl)<|wg 1 rfl<|w9<|wg 1 rfl<|wx rfl cc fun|_,⟨t2,rfl,FM,CK⟩=>⟨rfl,?_⟩
   refine wo rfl oA<|Wp.jump rfl ?_;have hb:t2.length≤200000+3000000*(pre.length+1):=by rw[Nat.mul_add,Nat.mul_one,←Nat.add_assoc];exact xH CK (Nat.add_le_add_right q2 _)
   exact next t2 (by omega) hb
 have Bx:∀(ae pre:List Lk),f.links=pre++ae→∀t':List UInt8,1≤t'.length→t'.length≤20000+6200*pre.length→Rn F X 106 2 [.sl (f.links.map Lk.d),jD f.links.length,jD pre.length,.str f.name,.sl (f.flags.map Fg.d),.sl (f.comps.map Cm.s),.sl (bX t'),jD 1] (CW 500000000):=by
  intro ae
  induction ae with
  |nil=>
   intro pre aE t' q1 q2;rw[xj] at aE;have hp':pre.length=f.links.length:=by rw[aE]
   exact wr rfl<|wn rfl ak<|wo rfl (aA (xm _))<|Wp.jump rfl (HF f.comps [] rfl t' q1 (by simp;omega))
  |cons a ae dj=>
   intro pre aE t' q1 q2;have aC:=bu aE;have ap:=bR (f:=Lk.d) aE;have next:=dj (pre++[a]) (by rw[aE,bp]);rw[xa] at next;have e1:pre.length+[a].length=pre.length+1:=rfl;rw[e1] at next;have ha:=hf.links.2 a (by rw[aE];simp);have g1:=rO ha.src;have g2:=rO ha.dst;obtain⟨s9,AB,ci⟩:=hI.L3 a.Ay (by have:=ha.Ay;omega);obtain⟨a1,a2,a3⟩:=a;simp only at g1 g2 ci;refine wr rfl<|wy rfl ak<|wo rfl (aB ap rfl)<|wg 1 rfl<|lH<|wl rfl ci rfl<|wg 2 rfl<|wx rfl (L1 [[108,105,110,107,32],a1,[32,45,62,32],a2,[32,108,97,116,101,110,99,121,32],s9,[59]] (by simp) (by simp only [cX,xi,xd];omega) t' (by omega)) fun|_,⟨t2,rfl,FM,CK⟩=>⟨rfl,?_⟩
   exact wo rfl oA<|gu<|Wp.jump rfl (next t2 (by omega) (by omega))
 have BM:∀(ae pre:List Fg),f.flags=pre++ae→∀t':List UInt8,1≤t'.length→t'.length≤1000+6200*pre.length→Rn F X 106 1 [.sl (f.flags.map Fg.d),jD f.flags.length,jD pre.length,.str f.name,.sl (f.links.map Lk.d),.sl (f.comps.map Cm.s),.sl (bX t'),jD 1] (CW 500000000):=by
  intro ae
  induction ae with
  |nil=>
   intro pre aE t' q1 q2;rw[xj] at aE;have hp':pre.length=f.flags.length:=by rw[aE]
   exact wr rfl<|wn rfl ak<|wo rfl (aA (xm _))<|Wp.jump rfl (Bx f.links [] rfl t' q1 (by simp;omega))
  |cons a ae dj=>
   intro pre aE t' q1 q2;have aC:=bu aE;have ap:=bR (f:=Fg.d) aE;have next:=dj (pre++[a]) (by rw[aE,bp]);rw[xa] at next;have e1:pre.length+[a].length=pre.length+1:=rfl;rw[e1] at next;have g1:=rO (hf.flags.2 a (by rw[aE];simp));obtain⟨a1,a2⟩:=a;simp only at g1;cases a2
   ·refine wr rfl<|wy rfl ak<|wo rfl (aB ap rfl)<|wg 2 rfl<|dh<|wl rfl aE0 rfl<|wg 2 rfl<|wx rfl (L1 [[102,108,97,103,32],a1,[32,61,32],[102,97,108,115,101],[59]] (by simp) (by simp only [cX,xi,xd];omega) t' (by omega)) fun|_,⟨t2,rfl,FM,CK⟩=>⟨rfl,?_⟩
    exact wo rfl oA<|oY<|Wp.jump rfl (next t2 (by omega) (by omega))
   ·refine wr rfl<|wy rfl ak<|wo rfl (aB ap rfl)<|wg 1 rfl<|dh<|wl rfl cR9 rfl<|wg 2 rfl<|wx rfl (L1 [[102,108,97,103,32],a1,[32,61,32],[116,114,117,101],[59]] (by simp) (by simp only [cX,xi,xd];omega) t' (by omega)) fun|_,⟨t2,rfl,FM,CK⟩=>⟨rfl,?_⟩
    exact wo rfl oA<|oY<|Wp.jump rfl (next t2 (by omega) (by omega))
 have g:=BM f.flags [] rfl;have a0:aU (.app 1 1) [.sl [],.str [102,108,101,101,116,32]]=some (.sl (bX [102,108,101,101,116,32])):=wu (t:=[]) (by simp);have c0:Rn F X 41 0 [.str f.name,.sl (f.flags.map Fg.d),.sl (f.links.map Lk.d),.sl (f.comps.map Cm.s)] (·=[iD 0]):=c0;show Rn F X 106 0 [.str f.name,.sl (f.flags.map Fg.d),.sl (f.links.map Lk.d),.sl (f.comps.map Cm.s)] _;exact wr rfl<|wl rfl c0 rfl<|wg 2 rfl<|wo rfl a0<|wg 1 rfl<|wo rfl (wu (by simp only [xa,xi,xd];omega))<|wg 1 rfl<|w8<|wg 1 rfl<|wo rfl (wu (by simp only [xa,xi,xd];omega))<|wg 2 rfl<|wo rfl (WG (by simp only [xa,xi,xd];omega))<|wo rfl (aA (ch _ _))<|lH<|Wp.jump rfl (g _ (by simp only [xa,xi,xd];omega) (by simp only [xa,xi,xd];omega))
def Ck(l:List D):Prop:=gG (List.replicate 32 .u8) l
theorem Ck.len{l:List D}(h:Ck l):l.length=32:=h.pS.1
theorem Ck.cells{l:List D}(h:Ck l):∀d∈l,d.cell=true:=fun d hd=>Ba (h.pS.2 d hd)
theorem aR9(s:List UInt8):BR (bX s):=fun row hr=>by
 obtain⟨b,_,rfl⟩:=xJ.1 hr;exact⟨_,rfl,b.toNat,rfl,b.toNat_lt⟩
theorem aY7{E ids:List D}{n:Nat}(hE:E.length=n)(hc:∀d∈ids,d.cell=true):aX (bP (lk (E++ids))) (CS n ids.length)=some ids:=
 Bb ids n fun i d hi=>⟨by rw[←hE,xq (by omega),Nat.add_sub_cancel_left];exact hi,hc d (xu hi)⟩
def fM(f:bq)(src:aH)(ids:List D)(rows:List (List D)):List D:=f.s++[.str src]++(ids++[.ptr [.sl rows] 0])
def cE(f:bq)(src:aH)(ids:List D)(rows:List (List D)):D:= .ptr (fM f src ids rows) 0
def OfQ(ar:List (List Nat))(f:bq)(o:List D):Prop:=∃(src:aH) (rows:List (List D)) (ids:List D),o=[cE f src ids rows,iD 0]∧Ry ar rows∧Ck ids
theorem bQ0(hX:mV X)(hP:yN X)(hI:yO X)(h7:DN X){ar:List (List Nat)}{f:bq}(hf:iC ar f):Rn F X 107 0 f.s (OfQ ar f):=by
 have c1:=aN0 hX hI hf;have c2:=aV6 hX hP hI h7 hf.ok;have c3:=PA (X:=X) hf.ok;obtain⟨nm,fl,lk,cs⟩:=f;have sm:=fun(s:List UInt8) (h:s.length≤500000000)=>bm0 (X:=X) (rows:=bX s) (by rw[tu];omega) (aR9 s)
 refine wr rfl<|wg 1 rfl<|wx rfl c1 fun|_,⟨rows,rfl,hr⟩=>⟨rfl,?_⟩
 refine wg 2 rfl<|wx rfl c2 fun|_,⟨s,rfl,hs⟩=>⟨rfl,?_⟩
 refine wl rfl c3 rfl<|dh<|wg 1 rfl<|wo rfl (wu (t:=[]) (by simp only [xd];omega))<|wg 1 rfl<|wx rfl (sm s hs) ?_;intro ids ul;have ul:Ck ids:=ul;refine⟨C2 ids 32 ul.len ul.cells,?_⟩;dsimp only [dU,Ex.r,St.r,List.cons_append,List.nil_append,df,de,iT,kr,kq,bq.s];have hd:=fun(E:List D) (hE:E.length=13)=>aY7 (ids:=ids) hE ul.cells
 rw[ul.len] at hd;refine Wp.op (Lu (De (a:=[cd 7,cd 8,cd 9,cd 10,cd 6]) rfl (De (hd [_,_,_,_,_,_,_,_,_,_,_,_,_] rfl) (b:=[cd 4]) rfl))) rfl rfl<|Wp.ret (eB (d1 (ko (by simp only [xi,ul.len])) rfl) rfl) ⟨s,rows,ids,rfl,hr,ul⟩
def cv5(o:List D):Prop:=∃(f:bq) (ar:List (List Nat)) (src:aH) (rows:List (List D)) (ids:List D),o=cE f src ids rows::f.r∧iC ar f∧Ry ar rows∧Ck ids
theorem be5(p:vF):Rn F X 108 0 p.d cv5:=by
 have c1:=OW (X:=X) p;obtain⟨fl,L,C⟩:=p;refine wr rfl<|wg 1 rfl<|wx rfl c1 ?_;rintro _ ⟨f,ar,rfl,hf⟩;have c2:=aN9 (X:=X) hf.ok;have c3:=bQ0 (X:=X) ⟨aP4⟩ xpr bf0 (aS5 xpr) hf;obtain⟨nm,Um,lk,cs⟩:=f;refine⟨rfl,?_⟩;refine wg 1 rfl<|w7<|wL rfl c2 rfl<|dh<|wg 1 rfl<|wx rfl c3 fun|_,⟨src,rows,ids,rfl,hr,ul⟩=>⟨rfl,?_⟩
 exact wg 1 rfl<|wt rfl ⟨⟨nm,Um,lk,cs⟩,ar,src,rows,ids,rfl,hf,hr,ul⟩
end
def Az(v:Vr):Bool:=v.type==3
def qv(l:List Vr):List (List D):=(l.filter fun v=> !Az v).map fun v=>[iD v.init]
def qw(l:List Vr):List (List D):=(l.filter Az).map fun _=>[.sl []]
def pR(c:Cm):List D:=[.sl (qv c.vars),.sl (qw c.vars),.sl []]
theorem wE{es bys n:Nat}{zs:List D}(h1:zs.length=es)(h2:jI n bys=true):aU (.gR es bys) (jD n::jD n::zs)=some (.sl (List.replicate n zs)):=by
 show(if zs.length=es∧n≤n∧jI n bys=true then some (D.sl (List.replicate n zs)) else none)=_;rw[if_pos ⟨h1,xk _,h2⟩]
theorem yi{n bys:Nat}(h:n≤1000)(hb:bys≤1000):jI n bys=true:=by
 unfold jI;have:n*bys≤1000*1000:=Nat.mul_le_mul h hb;simp only [xf,decide_eq_true_eq];omega
theorem ze{es:Nat}{rows src:List (List D)}(h:∀r∈src,r.length=es∧r.all D.cell=true)(hl:rows.length=src.length):aU (.qn es) [.sl rows,.sl src]=some (.agg [jD src.length,.sl src]):=by
 show(if src.all (fun r=>r.length==es&&r.all D.cell)=true then _ else none)=_;rw[if_pos (List.all_eq_true.2 fun r hr=>by simp[(h r hr).1,(h r hr).2])];rw[hl,Nat.min_self,List.take_length,←hl,List.drop_length,xj]
def Wd(es:Nat)(l:List (List D)):Prop:=∀r∈l,r.length=es∧r.all D.cell=true
theorem Wd.map{es:Nat}{α:Type}{f:α→List D}{l:List α}(h:∀a∈l,(f a).length=es∧(f a).all D.cell=true):Wd es (l.map f):=fun r hr=>by
 obtain⟨a,ha,rfl⟩:=xJ.1 hr;exact h a ha
section
variable{X:Nat→List D→Option (List D)}
theorem aO5{S B V:List (List D)}(hS:Wd 3 S)(hB:Wd 1 B)(hV:Wd 1 V)(lS:S.length≤1000)(lB:B.length≤1000)(lV:V.length≤1000):Rn F X 118 0 [.sl S,.sl B,.sl V] (·=[.sl S,.sl B,.sl V]):=by
 exact wr rfl<|wo rfl bf<|wo rfl (wE rfl (yi lS (by omega)))<|wo rfl bf<|wo rfl (wE rfl (yi lB (by omega)))<|wo rfl bf<|wo rfl (wE rfl (yi lV (by omega)))<|Wp.aF rfl (ze hS (List.length_replicate ..)) rfl<|Wp.aF rfl (ze hB (List.length_replicate ..)) rfl<|Wp.aF rfl (ze hV (List.length_replicate ..)) rfl<|wt rfl rfl
theorem U9{f:bq}{src:aH}{ids:List D}{rows:List (List D)}{k:Nat}{c:Cm}(hc:f.comps[k]? =some c)(hl:f.comps.length≤1000)(hv:c.vars.length≤1000):Rn F X 120 0 [cE f src ids rows,jD k] (·=pR c):=by
 have loop:∀(ae pre:List Vr),c.vars=pre++ae→Rn F X 120 1 [.sl (c.vars.map Vr.s),jD c.vars.length,jD pre.length,.sl (qv pre),.sl (qw pre)] (·=pR c):=by
  intro ae
  induction ae with
  |nil=>
   intro pre h1;rw[xj] at h1;have hp:pre.length=c.vars.length:=by rw[h1]
   refine wr rfl<|wn rfl ak<|wt rfl ?_;rw[←h1];rfl
  |cons v ae ih=>
   intro pre h1;have aC:=bu h1;have g1:=bR (f:=Vr.s) h1;have next:=ih (pre++[v]) (by rw[h1,bp]);rw[xa,show[v].length=1 from rfl] at next;have l1:(qv pre).length≤pre.length:=by unfold qv;rw[xm];exact List.length_filter_le _ _
   have l2:(qw pre).length≤pre.length:=by unfold qw;rw[xm];exact List.length_filter_le _ _
   refine wr rfl<|wy rfl ak<|wo rfl (aB g1 rfl)<|wg 1 rfl ?_;dsimp only [List.cons_append,List.nil_append,iT,Vr.s];by_cases ht:v.type=3
   ·have e1:qv (pre++[v])=qv pre:=by simp[qv,Az,ht]
    have e2:qw (pre++[v])=qw pre++[[.sl []]]:=by simp[qw,Az,ht]
    rw[e1,e2] at next;exact wy rfl ay<|wg 2 rfl<|wo rfl oP<|wo rfl oA<|wj next
   ·have e1:qv (pre++[v])=qv pre++[[iD v.init]]:=by simp[qv,Az,ht]
    have e2:qw (pre++[v])=qw pre:=by simp[qw,Az,ht]
    rw[e1,e2] at next;exact wn rfl ay<|wg 2 rfl<|wo rfl oP<|wo rfl oA<|wj next
 have hk:=(xe.1 hc).1;have ap:(f.comps.map Cm.s)[k]? =some c.s:=by rw[xx,hc];rfl
 have g:=loop c.vars [] rfl;exact wr rfl<|wn rfl ak<|wg 5 rfl<|wo rfl (aA (xm _))<|wn rfl Bk<|wg 4 rfl<|wo rfl (aB ap rfl)<|wg 1 rfl<|wo rfl (aA (xm _))<|wj g
end
structure Sm (f:bq):Prop where
 n:f.comps.length≤1000
 g:f.flags.length≤1000
 v:∀c∈f.comps,c.vars.length≤1000
def ux(f:bq):List (List D):=f.comps.map pR
def Fi(f:bq):List (List D):=f.flags.map fun g=>[.bool g.init]
def Ap(f:bq):List (List D):=f.comps.map fun _=>[iD 1]
def fS(f:bq):List D:=[.sl (ux f),.sl (Fi f),.sl (Ap f)]
def jM(f:bq)(fl:D)(h now:Nat)(ps:List (List D)):List D:=[fl,.sl [],jD h,jD now,.sl (ux f),.sl (Fi f),.sl (Ap f),.sl ps]
theorem wdS(f:bq):Wd 3 (ux f):=Wd.map fun _ _=>⟨rfl,rfl⟩
theorem wdF(f:bq):Wd 1 (Fi f):=Wd.map fun _ _=>⟨rfl,rfl⟩
theorem wdV(f:bq):Wd 1 (Ap f):=Wd.map fun _ _=>⟨rfl,rfl⟩
theorem YC{rows:List (List D)}{m:Nat}{r ds:List D}(h:rows[m]? =some r)(hl:r.length=ds.length):aU (.fk 0) (.sl rows::jD m::ds)=some (.sl (rows.set m ds)):=by
 show(rows[m]?).bind _=_;rw[h];show(if 0+ds.length≤r.length then _ else _)=_;rw[if_pos (by omega)]
 congr 3
 rw[List.take_zero,Nat.zero_add,←hl,List.drop_length,xj,List.nil_append]
theorem aU9{α:Type}{l:List α}{m:Nat}{a:α}(h:l[m]? =some a):l.set m a=l:=by
 apply List.ext_getElem?;intro i;by_cases hi:m=i
 ·subst hi;rw[List.getElem?_set_self (xe.1 h).1,h]
 ·rw[List.getElem?_set_ne hi]
section
variable{X:Nat→List D→Option (List D)}{f:bq}{src:aH}{ids:List D}{rows:List (List D)}
theorem aU4(hf:Sm f){h:Nat}(hh:h≤200):Rn F X 121 0 [cE f src ids rows,.sl [],jD h] (·=jM f (cE f src ids rows) h 0 []):=by
 obtain⟨hn,hg,hv⟩:=hf;have l2:∀(ae pre:List Fg),f.flags=pre++ae→Rn F X 121 2 [jD f.flags.length,jD pre.length,cE f src ids rows,.sl [],jD h,.sl (ux f),.sl (pre.map fun g=>[.bool g.init]),.sl (Ap f)] (·=jM f (cE f src ids rows) h 0 []):=by
  intro ae
  induction ae with
  |nil=>
   intro pre h1;rw[xj] at h1;have hp:pre.length=f.flags.length:=by rw[h1]
   refine wr rfl<|wn rfl ak<|wt rfl ?_;rw[←h1];rfl
  |cons g ae ih=>
   intro pre h1;have aC:=bu h1;have g1:=bR (f:=Fg.d) h1;have next:=ih (pre++[g]) (by rw[h1,bp]);rw[xa,show[g].length=1 from rfl,List.map_append] at next;have lm:(pre.map fun g:Fg=>[D.bool g.init]).length=pre.length:=xm _;refine wr rfl<|wy rfl ak<|wn rfl ak<|wg 2 rfl ?_;dsimp only [List.cons_append,List.nil_append,cE,fM,bq.s,df,de];refine wg 1 rfl ?_;dsimp only [List.cons_append,List.nil_append,cE,fM,bq.s,df,de];refine wg 1 rfl ?_;dsimp only [List.cons_append,List.nil_append,cE,fM,bq.s,df,de];refine wg 1 rfl ?_;dsimp only [List.cons_append,List.nil_append,cE,fM,bq.s,df,de];refine wo rfl (aA (xm _)) ?_;dsimp only [List.cons_append,List.nil_append,cE,fM,bq.s,df,de];refine wn rfl Bk<|wg 1 rfl ?_;dsimp only [List.cons_append,List.nil_append,cE,fM,bq.s,df,de];refine wg 1 rfl ?_;dsimp only [List.cons_append,List.nil_append,cE,fM,bq.s,df,de];refine wg 1 rfl ?_;dsimp only [List.cons_append,List.nil_append,cE,fM,bq.s,df,de];refine wg 1 rfl ?_;dsimp only [List.cons_append,List.nil_append,cE,fM,bq.s,df,de];refine wo rfl (aB g1 rfl) ?_;dsimp only [List.cons_append,List.nil_append,cE,fM,bq.s,df,de];obtain⟨nm,b⟩:=g;cases b
   ·refine wg 2 rfl ?_;dsimp only [List.cons_append,List.nil_append,cE,fM,bq.s,df,de];refine wg 2 rfl ?_;dsimp only [List.cons_append,List.nil_append,cE,fM,bq.s,df,de];refine wo rfl oP ?_;dsimp only [List.cons_append,List.nil_append,cE,fM,bq.s,df,de];refine wo rfl oA ?_;dsimp only [List.cons_append,List.nil_append,cE,fM,bq.s,df,de];exact Wp.jump rfl next
   ·refine wg 1 rfl ?_;dsimp only [List.cons_append,List.nil_append,cE,fM,bq.s,df,de];refine wg 2 rfl ?_;dsimp only [List.cons_append,List.nil_append,cE,fM,bq.s,df,de];refine wo rfl oP ?_;dsimp only [List.cons_append,List.nil_append,cE,fM,bq.s,df,de];refine wo rfl oA ?_;dsimp only [List.cons_append,List.nil_append,cE,fM,bq.s,df,de];exact Wp.jump rfl next
 have l1:∀(ae pre:List Cm),f.comps=pre++ae→Rn F X 121 1 [jD f.comps.length,jD pre.length,cE f src ids rows,.sl [],jD h,.sl (pre.map pR),.sl (pre.map fun _=>[iD 1])] (·=jM f (cE f src ids rows) h 0 []):=by
  intro ae
  induction ae with
  |nil=>
   intro pre h1;rw[xj] at h1;have hp:pre.length=f.comps.length:=by rw[h1]
   have g:=l2 f.flags [] rfl;refine wr rfl<|wn rfl ak<|wg 2 rfl ?_;dsimp only [List.cons_append,List.nil_append,cE,fM,bq.s,df,de];refine wg 1 rfl ?_;dsimp only [List.cons_append,List.nil_append,cE,fM,bq.s,df,de];refine wg 1 rfl ?_;dsimp only [List.cons_append,List.nil_append,cE,fM,bq.s,df,de];refine wg 1 rfl ?_;dsimp only [List.cons_append,List.nil_append,cE,fM,bq.s,df,de];refine wo rfl (aA (xm _)) ?_;dsimp only [List.cons_append,List.nil_append,cE,fM,bq.s,df,de];rw[←h1];exact Wp.jump rfl g
  |cons c ae ih=>
   intro pre h1;have aC:=bu h1;have hc:f.comps[pre.length]? =some c:=by rw[h1];simp
   have ci:=U9 (X:=X) (src:=src) (ids:=ids) (rows:=rows) hc hn (hv c (by rw[h1];simp));have next:=ih (pre++[c]) (by rw[h1,bp]);rw[xa,show[c].length=1 from rfl,List.map_append,List.map_append] at next;have lm:(pre.map pR).length=pre.length:=xm _;have lm2:(pre.map fun _:Cm=>[iD 1]).length=pre.length:=xm _;refine wr rfl<|wy rfl ak<|wl rfl ci rfl ?_;dsimp only [pR,List.cons_append,List.nil_append];refine wg 2 rfl ?_;dsimp only [List.cons_append,List.nil_append,cE,fM,bq.s,df,de];refine wo rfl oP ?_;dsimp only [List.cons_append,List.nil_append,cE,fM,bq.s,df,de];refine wg 2 rfl ?_;dsimp only [List.cons_append,List.nil_append,cE,fM,bq.s,df,de];refine wo rfl oP ?_;dsimp only [List.cons_append,List.nil_append,cE,fM,bq.s,df,de];refine wo rfl oA ?_;dsimp only [List.cons_append,List.nil_append,cE,fM,bq.s,df,de];exact Wp.jump rfl next
 have g:=l1 f.comps [] rfl;refine wr rfl<|wg 1 rfl<|wn rfl ak<|wn rfl c7<|Wp.Ao rfl rfl rfl<|Wp.Ao rfl rfl rfl<|wg 2 rfl ?_;dsimp only [List.cons_append,List.nil_append,cE,fM,bq.s,df,de];refine wg 1 rfl ?_;dsimp only [List.cons_append,List.nil_append,cE,fM,bq.s,df,de];refine wg 1 rfl ?_;dsimp only [List.cons_append,List.nil_append,cE,fM,bq.s,df,de];refine wg 1 rfl ?_;dsimp only [List.cons_append,List.nil_append,cE,fM,bq.s,df,de];refine wo rfl (aA (xm _)) ?_;dsimp only [List.cons_append,List.nil_append,cE,fM,bq.s,df,de];exact Wp.jump rfl g
theorem O0:(ux f).length=f.comps.length:=xm _
theorem Wr:(Fi f).length=f.flags.length:=xm _
theorem Wq:(Ap f).length=f.comps.length:=xm _
theorem bb9(hf:Sm f){h now:Nat}{ps:List (List D)}(hh:h≤200)(hn:now≤h)(hp:ps.length≤1000):Rn F X 122 0 (jM f (cE f src ids rows) h now ps) (·= .bool true::jM f (cE f src ids rows) h (now+1) (ps++[fS f])):=by
 have ck:=aO5 (X:=X) (wdS f) (wdF f) (wdV f) (by rw[O0];exact hf.n) (by rw[Wr];exact hf.g) (by rw[Wq];exact hf.n);have l2:∀(j i:Nat),i+j=f.comps.length→Rn F X 122 2 (jD f.comps.length::jD i::jM f (cE f src ids rows) h now ps) (·= .bool true::jM f (cE f src ids rows) h (now+1) (ps++[fS f])):=by
  intro j
  induction j with
  |zero=>
   intro i hi;refine wr rfl<|wn rfl ak<|wl rfl ck rfl ?_;dsimp only [jM,List.cons_append,List.nil_append];exact wg 2 rfl<|wo rfl oP<|wo rfl oA<|wt rfl rfl
  |succ j ih=>
   intro i hi;have g:=ih (i+1) (by omega);have g3:Rn F X 122 3 (jD f.comps.length::jD i::jM f (cE f src ids rows) h now ps) (·= .bool true::jM f (cE f src ids rows) h (now+1) (ps++[fS f])):=by
    have:=hf.n;exact wr rfl<|wo rfl oA<|wj g
   exact wr rfl<|wy rfl ak<|wj g3
 have l1:∀(j i:Nat),i+j=f.comps.length→Rn F X 122 1 (jD f.comps.length::jD i::jM f (cE f src ids rows) h now ps) (·= .bool true::jM f (cE f src ids rows) h (now+1) (ps++[fS f])):=by
  intro j
  induction j with
  |zero=>
   intro i hi;have g:=l2 f.comps.length 0 (by omega);exact wr rfl<|wn rfl ak<|wj g
  |succ j ih=>
   intro i hi;have g:=ih (i+1) (by omega);have:=hf.n;exact wr rfl<|wy rfl ak<|wo rfl oA<|wj g
 have g:=l1 f.comps.length 0 (by omega);exact wr rfl<|wn rfl c7<|wg 5 rfl<|wo rfl (aA (xm _))<|wj g
theorem aT3{h now:Nat}{ps:List (List D)}(hn:h<now):Rn F X 122 0 (jM f (cE f src ids rows) h now ps) (·= .bool false::jM f (cE f src ids rows) h now ps):=by
 exact wr rfl<|wy rfl c7<|wt rfl rfl
theorem aH4(hf:Sm f):Rn F X 119 0 (fS f) (·=fS f):=by
 have hn:=hf.n;have lS:=O0 (f:=f);have loop:∀(ae pre:List Cm),f.comps=pre++ae→Rn F X 119 1 [.sl (ux f),jD f.comps.length,jD pre.length,.sl (Fi f),.sl (Ap f)] (·=fS f):=by
  intro ae
  induction ae with
  |nil=>
   intro pre h1;rw[xj] at h1;have hp:pre.length=f.comps.length:=by rw[h1]
   exact wr rfl<|wn rfl ak<|wt rfl rfl
  |cons c ae ih=>
   intro pre h1;have aC:=bu h1;have hv:=hf.v c (by rw[h1];simp);have g1:(ux f)[pre.length]? =some (pR c):=bR (f:=pR) h1;have next:=ih (pre++[c]) (by rw[h1,bp]);rw[xa,show[c].length=1 from rfl] at next;have b1:(qv c.vars).length≤c.vars.length:=by unfold qv;rw[xm];exact List.length_filter_le _ _
   have b2:(qw c.vars).length≤c.vars.length:=by unfold qw;rw[xm];exact List.length_filter_le _ _
   have w1:Wd 1 (qv c.vars):=Wd.map fun _ _=>⟨rfl,rfl⟩
   have w2:Wd 1 (qw c.vars):=Wd.map fun _ _=>⟨rfl,rfl⟩
   have e1:(ux f).set pre.length [.sl (qv c.vars),.sl (qw c.vars),.sl []]=ux f:=aU9 g1;refine wr rfl<|wy rfl ak<|wy rfl DB<|Wp.aF rfl (OJ g1 rfl) rfl ?_;dsimp only [pR,List.cons_append,List.nil_append,iT];refine wo rfl bf<|wo rfl (wE rfl (yi (by omega) (by omega)))<|wo rfl bf<|wo rfl (wE rfl (yi (by omega) (by omega)))<|Wp.aF rfl (ze w1 (List.length_replicate ..)) rfl<|Wp.aF rfl (ze w2 (List.length_replicate ..)) rfl<|wy rfl DB<|wo rfl (YC g1 rfl) ?_;rw[e1];exact wo rfl oA<|wj next
 have g:=loop f.comps [] rfl;have hg:=hf.g;have lF:=Wr (f:=f);have lV:=Wq (f:=f);exact wr rfl<|wo rfl bf<|wo rfl (wE rfl (yi (by omega) (by omega)))<|wo rfl bf<|wo rfl (wE rfl (yi (by omega) (by omega)))<|wo rfl bf<|wo rfl (wE rfl (yi (by omega) (by omega)))<|Wp.aF rfl (ze (wdS f) (List.length_replicate ..)) rfl<|Wp.aF rfl (ze (wdF f) (List.length_replicate ..)) rfl<|Wp.aF rfl (ze (wdV f) (List.length_replicate ..)) rfl<|wo rfl (aA (n:=f.comps.length) (by rw[List.length_replicate,lS]))<|wj g
theorem aO9(hf:Sm f){h now n:Nat}(hn:n≤1000):Rn F X 123 0 (jM f (cE f src ids rows) h now (List.replicate n (fS f))) (·= .sl (List.replicate n (fS f))::jM f (cE f src ids rows) h now (List.replicate n (fS f))):=by
 have cp:=aH4 (X:=X) hf;have loop:∀(j i:Nat),i+j=n→Rn F X 123 1 (.sl (List.replicate i (fS f)++List.replicate j [.sl [],.sl [],.sl []]):: .sl (List.replicate n (fS f))::jD n::jD i::(jM f (cE f src ids rows) h now (List.replicate n (fS f))).take 7) (·= .sl (List.replicate n (fS f))::jM f (cE f src ids rows) h now (List.replicate n (fS f))):=by
  intro j
  induction j with
  |zero=>
   intro i hi;have e:i=n:=by omega
   subst e;refine wr rfl<|wn rfl ak<|wt rfl ?_;rw[List.replicate_zero,xj];rfl
  |succ j ih=>
   intro i hi;have next:=ih (i+1) (by omega);have g1:(List.replicate n (fS f))[i]? =some (fS f):=by rw[List.getElem?_replicate,if_pos (by omega)]
   have hl:(List.replicate i (fS f)++List.replicate (j+1) [D.sl [],.sl [],.sl []]).length=n:=by rw[xa,List.length_replicate,List.length_replicate];omega
   have g2:(List.replicate i (fS f)++List.replicate (j+1) [D.sl [],.sl [],.sl []])[i]? =some [.sl [],.sl [],.sl []]:=by
    rw[xq (by rw[List.length_replicate];omega),List.length_replicate,Nat.sub_self];rfl
   have e1:(List.replicate i (fS f)++List.replicate (j+1) [D.sl [],.sl [],.sl []]).set i (fS f)=List.replicate (i+1) (fS f)++List.replicate j [D.sl [],.sl [],.sl []]:=by
    rw[List.set_append_right _ _ (by rw[List.length_replicate];omega),List.length_replicate,Nat.sub_self,List.replicate_succ (n:=j),List.set_cons_zero,List.replicate_succ',List.append_assoc];rfl
   refine wr rfl<|wy rfl ak<|Wp.fR rfl DB (by rw[List.length_replicate];omega)<|Wp.aF rfl (OJ g1 rfl) rfl<|wl rfl cp rfl<|Wp.fR rfl DB (by rw[hl];omega)<|wo rfl (YC g2 rfl)<|wo rfl oA<|Wp.jump rfl ?_;rw[←e1] at next;exact next
 have g:=loop n 0 (by omega);exact wr rfl<|wo rfl (aA (List.length_replicate ..))<|wo rfl (wE rfl (yi (by omega) (by omega)))<|wo rfl (aA (List.length_replicate ..))<|wj g
theorem zd(hf:Sm f){h:Nat}(hh:h≤200):Rn F X 124 0 [cE f src ids rows,.sl [],jD h] (·=[.ptr [.sl [],.sl [],.sl (List.replicate (h+1) (fS f))] 0]):=by
 have loop:∀(j k:Nat),k+j=h+1→Rn F X 124 1 (jM f (cE f src ids rows) h k (List.replicate k (fS f))) (·=[.ptr [.sl [],.sl [],.sl (List.replicate (h+1) (fS f))] 0]):=by
  intro j
  induction j with
  |zero=>
   intro k hk;have e:k=h+1:=by omega
   subst e;have ct:=aT3 (X:=X) (f:=f) (src:=src) (ids:=ids) (rows:=rows) (ps:=List.replicate (h+1) (fS f)) (Nat.lt_succ_self h);have cp:=aO9 (X:=X) hf (src:=src) (ids:=ids) (rows:=rows) (h:=h) (now:=h+1) (n:=h+1) (by omega);refine wr rfl<|wl rfl ct rfl ?_;dsimp only [jM,List.cons_append,List.nil_append];refine wl rfl cp rfl ?_;dsimp only [jM,List.cons_append,List.nil_append];exact wg 3 rfl<|wt rfl rfl
  |succ j ih=>
   intro k hk;have next:=ih (k+1) (by omega);have ct:=bb9 (X:=X) hf (src:=src) (ids:=ids) (rows:=rows) (ps:=List.replicate k (fS f)) hh (show k≤h by omega) (by rw[List.length_replicate];omega);rw[←List.replicate_succ'] at ct;refine wr rfl<|wl rfl ct rfl ?_;dsimp only [jM,List.cons_append,List.nil_append];exact Wp.jump rfl next
 have g:=loop (h+1) 0 (by omega);have cs:=aU4 (X:=X) hf (src:=src) (ids:=ids) (rows:=rows) hh;refine wr rfl<|wl rfl cs rfl ?_;dsimp only [jM,List.cons_append,List.nil_append];exact Wp.jump rfl g
end
section
variable{X:Nat→List D→Option (List D)}
theorem bt5{α:Type}{q:α→Nat}{l:List α}(hl:l.length≤1000):Rn F X 125 0 [.sl (l.map fun a=>[iD (q a)]),.sl (l.map fun a=>[iD (q a)])] (·=[.bool true]):=by
 have loop:∀(ae pre:List α),l=pre++ae→Rn F X 125 1 [.sl (l.map fun a=>[iD (q a)]),.sl (l.map fun a=>[iD (q a)]),jD l.length,jD pre.length] (·=[.bool true]):=by
  intro ae
  induction ae with
  |nil=>
   intro pre h1;rw[xj] at h1;have hp:pre.length=l.length:=by rw[h1]
   exact wr rfl<|wn rfl ak<|wt rfl rfl
  |cons a ae ih=>
   intro pre h1;have aC:=bu h1;have g1:=bR (f:=fun a=>[iD (q a)]) h1;have next:=ih (pre++[a]) (by rw[h1,bp]);rw[xa,show[a].length=1 from rfl] at next;exact wr rfl<|wy rfl ak<|wo rfl (aB g1 rfl)<|wg 1 rfl<|wo rfl (aB g1 rfl)<|wg 1 rfl<|Wp.iG rfl gP (by simp)<|wo rfl oA<|wj next
 have g:=loop l [] rfl;exact wr rfl<|wo rfl (aA (xm _))<|wo rfl (aA (xm _))<|wn rfl gP<|wo rfl (aA (xm _))<|wj g
theorem XJ:Rn F X 126 0 [.sl [],.sl []] (·=[.bool true]):=by
 have g:Rn F X 126 1 [.sl [],.sl [],jD 0,jD 0] (·=[.bool true]):=by
  exact wr rfl<|wn rfl ak<|wt rfl rfl
 exact wr rfl<|wo rfl bf<|wo rfl bf<|Wp.iG rfl gP (by simp)<|wo rfl bf<|wj g
theorem bt4{α:Type}{l:List α}(hl:l.length≤1000):Rn F X 127 0 [.sl (l.map fun _=>[.sl []]),.sl (l.map fun _=>[.sl []])] (·=[.bool true]):=by
 have ce:=XJ (X:=X);have loop:∀(ae pre:List α),l=pre++ae→Rn F X 127 1 [.sl (l.map fun _=>[.sl []]),.sl (l.map fun _=>[.sl []]),jD l.length,jD pre.length] (·=[.bool true]):=by
  intro ae
  induction ae with
  |nil=>
   intro pre h1;rw[xj] at h1;have hp:pre.length=l.length:=by rw[h1]
   exact wr rfl<|wn rfl ak<|wt rfl rfl
  |cons a ae ih=>
   intro pre h1;have aC:=bu h1;have g1:=bR (f:=fun _:α=>[D.sl []]) h1;have next:=ih (pre++[a]) (by rw[h1,bp]);rw[xa,show[a].length=1 from rfl] at next;exact wr rfl<|wy rfl ak<|wo rfl (aB g1 rfl)<|wg 1 rfl<|wo rfl (aB g1 rfl)<|wg 1 rfl<|wl rfl ce rfl<|wo rfl oA<|wj next
 have g:=loop l [] rfl;exact wr rfl<|wo rfl (aA (xm _))<|wo rfl (aA (xm _))<|wn rfl gP<|wo rfl (aA (xm _))<|wj g
theorem aM6{c:Cm}(hv:c.vars.length≤1000):Rn F X 128 0 (pR c++pR c) (·=[.bool true]):=by
 have b1:(c.vars.filter fun v=> !Az v).length≤1000:=xH (List.length_filter_le _ _) hv;have b2:(c.vars.filter Az).length≤1000:=xH (List.length_filter_le _ _) hv;have c1:=bt5 (X:=X) (q:=Vr.init) b1;have c2:=bt4 (X:=X) b2;have c3:=XJ (X:=X);exact wr rfl<|wl rfl c1 rfl<|wl rfl c2 rfl<|wl rfl c3 rfl<|wt rfl rfl
theorem cR7{ar:List (List Nat)}{f:bq}(h:iC ar f):Sm f:=by
 refine⟨by have:=h.n;omega,by have:=h.flags.1;omega,fun c hc=> ?_⟩;obtain⟨i,hi,rfl⟩:=List.getElem_of_mem hc;obtain⟨ints,tables,al,_,h3,h1,_,hv,_⟩:=(h.comps i _ (xc hi)).rest;rw[hv];simp only [xa,xm,List.length_range,xi];omega
theorem bo8(aw:Rn F X 130 0 [] (·=[.bool true]))(p:vF)(b:UInt8):Rn F X 129 0 (p.d++[bD b.toNat]) (·=[.bool true]):=by
 have cm:=be5 (X:=X) p;obtain⟨pf,pL,pC⟩:=p;have hb:b.toNat%13<13:=Nat.mod_lt _ (by omega);generalize hh:b.toNat%13=h at hb;refine wr rfl<|wl rfl aw rfl<|wg 1 rfl<|wx rfl cm fun|_,⟨f,ar,src,rows,ids,rfl,hf,hr,ul⟩=>⟨rfl,?_⟩
 have hs:=cR7 hf;dsimp only [vF.d,bq.r,List.cons_append,List.nil_append];have hn:=hs.n;have cr:=zd (X:=X) hs (src:=src) (ids:=ids) (rows:=rows) (h:=h) (by omega);have l2:∀(i:Nat),i≤h→Rn F X 129 1 [.sl (List.replicate (h+1) (fS f)),jD (h+1),jD (i+1),cE f src ids rows,jD h] (·=[.bool true])→∀(ae pre:List Cm),f.comps=pre++ae→
  Rn F X 129 2 [.sl (List.replicate (h+1) (fS f)),jD (h+1),jD i,.sl (ux f),jD f.comps.length,jD pre.length,cE f src ids rows,jD h,.sl (Fi f),.sl (Ap f)] (·=[.bool true]):=by
  intro i hi xV ae
  induction ae with
  |nil=>
   intro pre h1;rw[xj] at h1;have hp:pre.length=f.comps.length:=by rw[h1]
   refine wr rfl<|wn rfl ak<|wo rfl oA ?_;dsimp only [List.cons_append,List.nil_append];exact Wp.jump rfl xV
  |cons c ae ih=>
   intro pre h1;have aC:=bu h1;have hv:=hs.v c (by rw[h1];simp);have hc:f.comps[pre.length]? =some c:=by rw[h1];simp
   have g1:(ux f)[pre.length]? =some (pR c):=bR (f:=pR) h1;have g2:(Ap f)[pre.length]? =some [iD 1]:=bR (f:=fun _=>[iD 1]) h1;have ci:=U9 (X:=X) (src:=src) (ids:=ids) (rows:=rows) hc hn hv;have ce:=aM6 (X:=X) hv;have next:=ih (pre++[c]) (by rw[h1,bp]);rw[xa,show[c].length=1 from rfl] at next;refine wr rfl<|wy rfl ak<|wo rfl (aB g1 rfl) ?_;dsimp only [List.cons_append,List.nil_append];refine wg 1 rfl ?_;dsimp only [pR,List.cons_append,List.nil_append,iT];refine wl rfl ci rfl ?_;dsimp only [pR,List.cons_append,List.nil_append];refine wl rfl ce rfl ?_;dsimp only [List.cons_append,List.nil_append];refine wo rfl (aB g2 rfl) ?_;dsimp only [List.cons_append,List.nil_append];refine wg 1 rfl ?_;dsimp only [List.cons_append,List.nil_append];refine Wp.iG rfl gP (by simp)<|wo rfl oA ?_;dsimp only [List.cons_append,List.nil_append];exact Wp.jump rfl next
 have l1:∀(j i:Nat),i+j=h+1→Rn F X 129 1 [.sl (List.replicate (h+1) (fS f)),jD (h+1),jD i,cE f src ids rows,jD h] (·=[.bool true]):=by
  intro j
  induction j with
  |zero=>
   intro i hi;exact wr rfl<|wn rfl ak<|wt rfl rfl
  |succ j ih=>
   intro i hi;have g:=l2 i (by omega) (ih (i+1) (by omega)) f.comps [] rfl;have g1:(List.replicate (h+1) (fS f))[i]? =some (fS f):=by rw[List.getElem?_replicate,if_pos (by omega)]
   refine wr rfl<|wy rfl ak<|wo rfl (aB g1 rfl) ?_;dsimp only [List.cons_append,List.nil_append];refine wg 1 rfl ?_;dsimp only [fS,List.cons_append,List.nil_append,iT];refine wo rfl (aA O0) ?_;dsimp only [List.cons_append,List.nil_append];exact Wp.jump rfl g
 have g:=l1 (h+1) 0 (by omega);refine wo rfl (kz (b:=13) _ (by omega)) ?_;dsimp only [List.cons_append,List.nil_append];rw[hh];refine wo rfl oC ?_;dsimp only [List.cons_append,List.nil_append];refine wg 3 rfl ?_;dsimp only [List.cons_append,List.nil_append];refine wL rfl cr rfl ?_;dsimp only [List.cons_append,List.nil_append];refine wg 2 rfl ?_;dsimp only [List.cons_append,List.nil_append];refine wg 1 rfl ?_;dsimp only [List.cons_append,List.nil_append];refine wg 1 rfl ?_;dsimp only [List.cons_append,List.nil_append];refine wo rfl bf ?_;dsimp only [List.cons_append,List.nil_append];refine wg 1 rfl ?_;dsimp only [List.cons_append,List.nil_append];refine wg 1 rfl ?_;dsimp only [List.cons_append,List.nil_append];refine wg 1 rfl ?_;dsimp only [List.cons_append,List.nil_append];refine wo rfl bf ?_;dsimp only [List.cons_append,List.nil_append];refine wo rfl (m4 (a:=0) (b:=0) (by omega)) ?_;dsimp only [List.cons_append,List.nil_append];refine Wp.iG rfl gP (by simp)<|wg 1 rfl ?_;dsimp only [List.cons_append,List.nil_append];refine wg 1 rfl ?_;dsimp only [List.cons_append,List.nil_append];refine wg 1 rfl ?_;dsimp only [List.cons_append,List.nil_append];refine wo rfl (aA (List.length_replicate ..)) ?_;dsimp only [List.cons_append,List.nil_append];refine wo rfl oA ?_;dsimp only [List.cons_append,List.nil_append];refine Wp.iG rfl gP (by simp)<|wg 1 rfl ?_;dsimp only [List.cons_append,List.nil_append];refine wg 1 rfl ?_;dsimp only [List.cons_append,List.nil_append];refine wg 1 rfl ?_;dsimp only [List.cons_append,List.nil_append];refine wo rfl (aA (List.length_replicate ..)) ?_;dsimp only [List.cons_append,List.nil_append];exact Wp.jump rfl g
end
end
end Go.Proofs.YtaginlnifpbfgaaGreatDoor
