/- What these functions answer. -/
import Derived.Test.YthicpeihkkokmaaGreatDoorP1
import Derived.Test.YthicpeihkkokmaaGreatDoorA0
import Derived.KernelRfl
import Derived.Test.YthicpeihkkokmaaGreatDoorP7
import Derived.Test.YthicpeihkkokmaaGreatDoorP2
set_option linter.unusedVariables false
set_option linter.unusedSimpArgs false
set_option maxHeartbeats 4000000
set_option maxRecDepth 100000
namespace Go.Proofs.YthicpeihkkokmaaGreatDoor
open Go.Ex Go.RowKit
noncomputable section
def vX(k:xO)(l:Di):Prop:=∀d∈l,l6 k d
theorem zN{k:xO}{d:D}(h:l6 k d):d.cell=true:=by obtain⟨n,rfl,_⟩:=h;rfl
def dC(ks:List (Option xO))(env:Di):Prop:=ks.length=env.length/\∀(i:Nat) (k:xO),ks[i]? =some (some k)->∃d,env[i]? =some d/\l6 k d
theorem dC.app{a b:List (Option xO)}{x y:Di}(h:dC a x)(g:dC b y):dC (a++b) (x++y):=by
 refine⟨by simp[h.1,g.1],fun i k hi=> ?_⟩;by_cases hl:i<a.length
 ·rw[xw hl] at hi;obtain⟨d,h1,h2⟩:=h.2 i k hi;exact⟨d,by rw[xw (by rw[<-h.1];exact hl)];exact h1,h2⟩
 ·rw[xq MK] at hi;obtain⟨d,h1,h2⟩:=g.2 _ k hi;exact⟨d,by rw[xq (by rw[<-h.1];omega),<-h.1];exact h1,h2⟩
theorem dC.ol{k:xO}{l:Di}{n:Nat}(hn:l.length=n)(h:vX k l):dC (List.replicate n (some k)) l:=by
 refine⟨by simp[hn],fun i k' hi=> ?_⟩;have hl:=(xe.1 hi).1;rw[List.length_replicate] at hl;rw[List.getElem?_replicate,i_ hl] at hi;cases hi;have aL:i<l.length:=MK
 exact⟨l[i],xc aL,h _ (List.getElem_mem aL)⟩
theorem dC.one{k:xO}{d:D}(h:l6 k d):dC [some k] [d]:=dC.ol (n:=1) rfl (fun x hx=>by rw[xy] at hx;subst hx;exact h)
theorem dC.om{d:D}:dC [none] [d]:=⟨rfl,fun i k hi=>by cases i with|zero=>simp at hi|succ i=>simp at hi⟩
def lG(l:List (Option xO)):Nat->T (Option xO)->T (Option xO):=List.rec (motive:=fun _=>Nat->T (Option xO)->T (Option xO)) (fun _ t=>t) (fun x _ ih i t=>ih (Nat.succ i) (t.set i x)) l
theorem NP(c:Nat)(k:xO):∀(l:List (Option xO)) (i:Nat) (t:T (Option xO)),T.get none (lG l i t) c=some k->(∃j,l[j]? =some (some k)/\c=i+j)\/T.get none t c=some k
 |[],i,t,h=> .inr h
 |x::l,i,t,h=>by
  have h':T.get none (lG l (i+1) (t.set i x)) c=some k:=h;rcases NP c k l (i+1) (t.set i x) h' with⟨j,h1,h2⟩|h1
  ·exact .inl ⟨j+1,by simpa using h1,MK⟩
  ·by_cases hc:i=c
   ·subst hc;rcases T.tz none t i x with e|⟨e,_⟩
    ·rw[e] at h1;subst h1;exact .inl ⟨0,rfl,rfl⟩
    ·rw[e] at h1;cases h1
   ·rw[T.tA none t i c x hc] at h1;exact .inr h1
def Ef(l:List (Option xO)):T (Option xO):=lG l 0 (T.full none 12)
theorem Po{ks:List (Option xO)}{env:Di}(h:dC ks env):∀(c:Nat) (k:xO),T.get none (Ef ks) c=some k->∃d,env[c]? =some d/\l6 k d:=fun c k hc=>by
 rcases NP c k ks 0 _ hc with⟨j,h1,h2⟩|h1
 ·rw[Nat.zero_add] at h2;subst h2;exact h.2 _ k h1
 ·rcases T.B7 (none:Option xO) none 12 c with e|e<;>(rw[e] at h1;cases h1)
def qT(K:T (Option xO))(l:C3):Option (List xO):=List.rec (motive:=fun _=>Option (List xO)) (some []) (fun v _ ih=>match vT K v,ih with|some k,some r=>some (k::r)|_,_=>none) l
def im:List xO->List D->Prop|[],[]=>True|k::ks,d::ds=>l6 k d/\im ks ds|_,_=>False
theorem zG{K:T (Option xO)}{env:Di}(he:∀c k,T.get none K c=some k->∃d,env[c]? =some d/\l6 k d):∀(l:C3) (ks:JI),qT K l=some ks->∃ds,aH (aX (lk env)) l=some ds/\im ks ds
 |[],ks,h=>by cases h;exact⟨[],rfl,trivial⟩
 |v::l,ks,h=>by
  have h':(match vT K v,qT K l with|some k,some r=>some (k::r)|_,_=>none)=some ks:=h;split at h'
  ·rename_i k r hk hr;cases h';obtain⟨ds,h1,h2⟩:=zG he l r hr;have hv:∃n:Nat,aX (lk env) v=some (.int k (.ofNat n))/\n<mk k:=by
    unfold vT at hk;split at hk
    ·rename_i c;obtain⟨d,h1,n,rfl,h3⟩:=he c k hk;refine⟨n,?_,h3⟩;show(env[c]?).bind _=_;rw[h1];rfl
    ·rename_i k0 n;rcases aC hk with⟨h1,h2⟩|⟨_,h2⟩<;>cases h2
     exact⟨n,rfl,xh h1⟩
    ·cases hk
   obtain⟨n,e1,e2⟩:=hv;exact⟨_::ds,by simp only [aH,e1,h1],⟨n,rfl,e2⟩,h2⟩
  ·cases h'
theorem im.app:∀{a b:JI} {l:Di},im (a++b) l->∃x y,l=x++y/\im a x/\im b y
 |[],b,l,h=>⟨[],l,rfl,trivial,h⟩
 |k::a,b,[],h=>h.elim
 |k::a,b,d::l,h=>by
  obtain⟨x,y,rfl,h1,h2⟩:=im.app (a:=a) h.2;exact⟨d::x,y,rfl,⟨h.1,h1⟩,h2⟩
theorem im.ol{k:xO}:∀{n:Nat} {l:Di},im (List.replicate n k) l->l.length=n/\vX k l
 |0,[],_=>⟨Y,fun d h=>by cases h⟩
 |0,_::_,h=>h.elim
 |n+1,[],h=>h.elim
 |n+1,d::l,h=>by
  obtain⟨h1,h2⟩:=im.ol (n:=n) h.2;exact⟨by simp[h1],fun x hx=>by
   rcases xG.1 hx with rfl|hx
   ·exact h.1
   ·exact h2 x hx⟩
theorem dG{l r:Di}{i:Nat}{d:D}(h:l[i]? =some d):(l++r)[i]? =some d:=by
 rw[xw (xe.1 h).1];exact h
theorem kF{l:Di}{n:Nat}{d:D}(h:l.length=n):(l++[d])[n]? =some d:=by
 rw[xq MK,h,Nat.sub_self];rfl
theorem d1{env:Di}{i:Nat}{d:D}(h:env[i]? =some d)(hc:d.cell=true):aX (lk env) (cd i)=some d:=by
 show(env[i]?).bind _=_;rw[h,xB,i_ hc]
theorem d2{env:Di}{i:Nat}{d:D}(h:env[i]? =some d)(hc:d.cell=true):bR (lk env) (cd i)=some d:=d1 h hc
def B3:Nat->Nat->List xM|_,0=>[]|a,n+1=>cd a::B3 (a+1) n
theorem XM{env:Di}:∀(lV:Di) (a:Nat),(∀i d,lV[i]? =some d->env[a+i]? =some d/\d.cell=true)->aH (bR (lk env)) (B3 a lV.length)=some lV
 |[],a,_=>rfl
 |d::lV,a,h=>by
  have h0:=h 0 d rfl;have h1:=XM lV (a+1) (fun i x hx=>by
   have:=h (i+1) x (by simpa using hx);rw[show a+1+i=a+(i+1) by omega];exact this)
  show(match bR (lk env) (cd a),aH (bR (lk env)) (B3 (a+1) lV.length) with|some x,some r=>some (x::r)|_,_=>none)=_;rw[h1,d2 h0.1 h0.2]
theorem zO{env:Di}:∀(lV:Di) (a:Nat),(∀i d,lV[i]? =some d->env[a+i]? =some d/\d.cell=true)->aH (aX (lk env)) (B3 a lV.length)=some lV
 |[],a,_=>rfl
 |d::lV,a,h=>by
  have h0:=h 0 d rfl;have h1:=zO lV (a+1) (fun i x hx=>by
   have:=h (i+1) x (by simpa using hx);rw[show a+1+i=a+(i+1) by omega];exact this)
  show(match aX (lk env) (cd a),aH (aX (lk env)) (B3 (a+1) lV.length) with|some x,some r=>some (x::r)|_,_=>none)=_;rw[h1,d1 h0.1 h0.2]
theorem eM{g:xM->KA}{v:xM}{l:C3}{d:D}{ds:Di}(h:g v=some d)(hl:aH g l=some ds):aH g (v::l)=some (d::ds):=by
 simp only [aH,h,hl]
def kx:JI:=List.replicate 8 .u32++(List.replicate 64 .u8++[.u64])
structure HS (ws bs:Di) (gk:D):Prop where
 w:ws.length=8
 b:bs.length=64
 aw:vX .u32 ws
 ab:vX .u8 bs
 t:l6 .u64 gk
theorem HS.of{l:Di}(h:im kx l):∃ws bs gk,l=ws++(bs++[gk])/\HS ws bs gk:=by
 obtain⟨ws,r,rfl,h1,h2⟩:=im.app h;obtain⟨bs,t,rfl,h3,h4⟩:=im.app h2;obtain⟨e1,e2⟩:=h1.ol;obtain⟨e3,e4⟩:=h3.ol
 match t,h4 with
 |[gk],h4=>exact⟨ws,bs,gk,rfl,e1,e3,e2,e4,h4.1⟩
 |[],h4=>exact h4.elim
 |_::_::_,h4=>exact h4.2.elim
def BR(rows:Ca):Prop:=∀row∈rows,∃d,row=[d]/\l6 .u8 d
theorem BR.drop{rows:Ca}(h:BR rows)(n:Nat):BR (rows.drop n):=fun row hr=>h row (List.mem_of_mem_drop hr)
theorem BR.all{rows:Ca}(h:BR rows):rows.all (fun r=>r.length==1&&r.all D.cell)=true:=by
 rw[List.all_eq_true];intro row hr;obtain⟨d,rfl,hd⟩:=h row hr;simp[zN hd]
theorem BR.flat:∀{rows:Ca},BR rows->rows.flatten.length=rows.length/\vX .u8 rows.flatten
 |[],_=>⟨Y,fun d h=>by simp at h⟩
 |row::rows,h=>by
  obtain⟨d,rfl,hd⟩:=h row NS;obtain⟨h1,h2⟩:=BR.flat (rows:=rows) (fun r hr=>h r (by simp[hr]));exact⟨by simp[h1],fun x hx=>by
   rw[List.flatten_cons,xF] at hx;rcases hx with hx|hx
   ·rw[xy] at hx;subst hx;exact hd
   ·exact h2 x hx⟩
theorem be9{rows:Ca}{eJ:Di}{a:Nat}(h:BR rows)(ho:vX .u8 eJ)(hl:eJ.length=64)(ha:a<=64):
 ∃dI,aF (.EO 64) (jD a:: .sl rows::eJ)=some (.agg (jD (min rows.length (64 - a))::dI))/\dI.length=64/\vX .u8 dI:=by
 refine⟨_,show(if rows.all (fun r=>r.length==1&&r.all D.cell)=true/\a<=64/\eJ.length=64 then some (D.agg (.int .i64 (min rows.length (64 - a):Nat)::(eJ.take a++(rows.take (64 - a)).flatten++eJ.drop (a+min rows.length (64 - a))))) else none)=_ by rw[i_ ⟨h.all,ha,hl⟩],?_,?_⟩
 ·have hb:BR (rows.take (64 - a)):=fun r hr=>h r (List.mem_of_mem_take hr)
  rw[xa,xa,hb.flat.1,xz,xz,List.length_drop];omega
 ·have hb:BR (rows.take (64 - a)):=fun r hr=>h r (List.mem_of_mem_take hr)
  intro d hd;rw[xF,xF] at hd;rcases hd with(hd|hd)|hd
  ·exact ho d (List.mem_of_mem_take hd)
  ·exact hb.flat.2 d hd
  ·exact ho d (List.mem_of_mem_drop hd)
theorem Cg:∀(l:Di) (n:Nat),l.length=n->(∀d∈l,d.cell=true)->jc (List.replicate n no) l=true
 |[],n,h,_=>by subst h;rfl
 |d::l,n,h,hc=>by
  subst h;show(d.cell&&jc (List.replicate l.length no) l)=true;rw[hc d NS,Cg l l.length rfl (fun x hx=>hc x (by simp[hx]))];rfl
abbrev MH:List (Option xO):=[none]++(List.replicate 8 (some .u32)++(List.replicate 64 (some .u8)++([some .u64]++([none]++([none]++([none]++([some .i64]++(List.replicate 64 (some .u8)++[none]))))))))
abbrev L1:sH:=[(.kS .u64,[cd 77]),(.bin .add 0,[cd 73,cd 143])]
def D6(t:DT):C3:=match t with| .jump _ _ _ _ us=>us.tail|_=>[]
def Kr(x:Option (List xO)):Bool:=match x with|some l=>decide (l=kx)|none=>false
theorem Wj{x:Option (List xO)}(h:Kr x=true):x=some kx:=by
 unfold Kr at h;split at h
 ·rw[of_decide_eq_true h]
 ·cases h
def al3:Bool:=match tN L1 (Ef MH) 143 with
 |some (K1,n)=>Nat.beq n 145&& (Kr (qT K1 (D6 IN))&& (match tN (GV (Ie BV)) K1 146 with|some (K2,_)=>Kr (qT K2 (D6 JD))|none=>false))
 |none=>false
theorem az0:al3=true:=by kernel_rfl
theorem im.Pj{k:xO}:∀(n:Nat) (l:Di) {ks:JI} {r:Di},l.length=n->vX k l->im ks r->im (List.replicate n k++ks) (l++r)
 |0,l,ks,r,hl,_,h=>by rw[xA hl];exact h
 |n+1,[],ks,r,hl,_,h=>by simp at hl
 |n+1,d::l,ks,r,hl,ha,h=>⟨ha d NS,im.Pj n l (by simpa using hl) (fun x hx=>ha x (by simp[hx])) h⟩
theorem HS.us{ws bs:Di}{gk:D}(h:HS ws bs gk):im kx (ws++(bs++[gk])):=im.Pj 8 ws h.w h.aw (im.Pj 64 bs h.b h.ab ⟨h.t,trivial⟩)
theorem HS.cells{ws bs:Di}{gk:D}(h:HS ws bs gk):∀d∈ws++(bs++[gk]),d.cell=true:=fun d hd=>by
 rw[xF,xF,xy] at hd;rcases hd with hd|hd|rfl
 ·exact zN (h.aw d hd)
 ·exact zN (h.ab d hd)
 ·exact zN h.t
theorem HS.len{ws bs:Di}{gk:D}(h:HS ws bs gk):(ws++(bs++[gk])).length=73:=by
 rw[xa,xa,h.w,h.b];rfl
theorem az1:∃K1 K2 n2,tN L1 (Ef MH) 143=some (K1,145)/\qT K1 (D6 IN)=some kx/\tN (GV (Ie BV)) K1 146=some (K2,n2)/\qT K2 (D6 JD)=some kx:=by
 have h:=az0;unfold al3 at h;split at h
 ·rename_i K1 n h1;simp only [xf] at h;obtain⟨e1,e2,e3⟩:=h;have e1:=xb e1;subst e1;split at e3
  ·rename_i K2 n2 h2;exact⟨K1,K2,n2,h1,Wj e2,h2,Wj e3⟩
  ·cases e3
 ·cases h
section
variable{X:Bv}
theorem aU8:∀(n:Nat) (rows:Ca) (ws bs:Di) (gk:D),rows.length<=n->n<=1000000000000->BR rows->HS ws bs gk->Rn F X 117 1 (.sl rows::(ws++(bs++[gk]))) (fun o=>im kx o):=by
 intro n;obtain⟨K1,K2,n2,H9,hU1,H8,hU2⟩:=az1
 induction n with
 |zero=>
  intro rows ws bs gk hn _ hb hs;obtain rfl:rows=[]:=xA MK;have hl:=hs.len;have hc:=hs.cells;have jZ:=hs.us;generalize ws++(bs++[gk])=st at*;refine wR Y (by show st.length+1=74;omega)<|e_ (ds:=[.sl []]) rfl bc rfl ?_;have EI:((D.sl []::st)++[jD 0])[74]? =some (jD 0):=kF (by simp[hl]);refine Wp.qQ (eM (d2 EI rfl) rfl) rfl ?_;have hd:=zO (env:=(D.sl []::st)++[jD 0]) st 1 (fun i d hi=>⟨dG (by rw[Nat.add_comm];simpa using hi),hc d (xu hi)⟩);rw[hl] at hd;exact Wp.ret hd jZ
 |succ n ih=>
  intro rows ws bs gk hn fj hb hs;have hl:=hs.len;have hc:=hs.cells;have jZ:=hs.us;obtain⟨hw,zg,haw,iw,T0,rfl,hT⟩:=hs;have EJ:(D.sl rows::(ws++(bs++[D.int .u64 (.ofNat T0)])))[73]? =some (D.int .u64 (.ofNat T0)):=by
   rw[List.getElem?_cons_succ,xq MK,xq MK,hw,zg];rfl
  have gbs:∀(i:Nat) (d:D),bs[i]? =some d->(D.sl rows::(ws++(bs++[D.int .u64 (.ofNat T0)])))[9+i]? =some d/\d.cell=true:=fun i d hi=>by
   refine⟨?_,zN (iw d (xu hi))⟩;rw[show 9+i=8+i+1 by omega,List.getElem?_cons_succ,xq MK,hw,Nat.add_sub_cancel_left];exact dG hi
  have lq:dC ([none]++(List.replicate 8 (some .u32)++(List.replicate 64 (some .u8)++[some .u64]))) (D.sl rows::(ws++(bs++[D.int .u64 (.ofNat T0)]))):=dC.app (x:=[D.sl rows]) dC.om (dC.app (dC.ol hw haw) (dC.app (dC.ol zg iw) (dC.one ⟨T0,rfl,hT⟩)));have zt:(D.sl rows::(ws++(bs++[D.int .u64 (.ofNat T0)]))).length=74:=by show _+1=74;omega
  have ad9:=zO (env:=(D.sl rows::(ws++(bs++[D.int .u64 (.ofNat T0)])))++[jD rows.length]) (ws++(bs++[D.int .u64 (.ofNat T0)])) 1 (fun i d hi=>⟨dG (by rw[Nat.add_comm];simpa using hi),hc d (xu hi)⟩);rw[hl] at ad9;refine wR Y zt<|e_ (ds:=[.sl rows]) rfl bc rfl ?_;have g0:(D.sl rows::(ws++(bs++[D.int .u64 (.ofNat T0)])))[0]? =some (D.sl rows):=rfl;generalize cq1:(D.sl rows::(ws++(bs++[D.int .u64 (.ofNat T0)])))=E0 at*;have EI:(E0++[jD rows.length])[74]? =some (jD rows.length):=kF zt;by_cases hr:rows.length=0
  ·exact Wp.c8 (eM (d2 EI rfl) rfl) (bZ (a:=(rows.length:Int)) (b:=0)) MK<|Wp.ret ad9 jZ
  refine Wp.dt (eM (d2 EI rfl) rfl) (bZ (a:=(rows.length:Int)) (b:=0)) MK<|e_ (eM (d2 (dG EJ) rfl) rfl) (ka (a:=T0) (b:=64) .u64 MK) rfl ?_;have ha:T0%64<64:=Nat.mod_lt _ MK;generalize hga:T0%64=a at*;have Mw:(E0++[jD rows.length]).length=75:=by simp[zt]
  have TV:=kF (d:=D.int .u64 ((a:Nat):Int)) Mw;have wB:aF (.kS .i64) [D.int .u64 ((a:Nat):Int)]=some (jD a):=by
   show some (D.int .i64 (IntKind.i64.wrap (a:Int)))=_;rw[IntWalk.i64_in _ MK]
  refine e_ (eM (d2 TV rfl) rfl) wB Y ?_;have Mv:(E0++[jD rows.length]++[D.int .u64 ((a:Nat):Int)]).length=76:=by simp[zt]
  have wH:=kF (d:=jD a) Mv;have qH:aF .iO [D.int .i64 64,jD a]=some (.bool true):=by
   show some (D.bool (decide (a<64)))=_;rw[u_ ha]
  refine Wp.nz (eM rfl (eM (d2 wH Y) rfl)) qH ?_;obtain⟨dI,hcp,lj,hnu⟩:=be9 hb iw zg (Nat.le_of_lt ha);have Li:1<=min rows.length (64 - a)/\min rows.length (64 - a)<=rows.length/\min rows.length (64 - a)<=64:=MK
  generalize hgc:min rows.length (64 - a)=jx at*;have ii:aH (bR (lk (E0++[jD rows.length]++[D.int .u64 ((a:Nat):Int)]++[jD a]))) (cd 76::cd 0::B3 9 64)=some (jD a:: .sl rows::bs):=by
   have h9:=XM (env:=E0++[jD rows.length]++[D.int .u64 ((a:Nat):Int)]++[jD a]) bs 9 (fun i d hi=>⟨dG (dG (dG (gbs i d hi).1)),(gbs i d hi).2⟩);rw[zg] at h9;exact eM (d2 wH Y) (eM (d2 (dG (dG (dG g0))) rfl) h9)
  refine Wp.aQ ii hcp (Cg _ 65 (by simp[lj]) (fun d hd=>by
   rcases xG.1 hd with rfl|hd
   ·rfl
   ·exact zN (hnu d hd))) ?_
  have zm:(E0++[jD rows.length]++[D.int .u64 ((a:Nat):Int)]++[jD a]).length=77:=by simp[zt]
  have HM:dC ([none]++(List.replicate 8 (some .u32)++(List.replicate 64 (some .u8)++[some .u64]))++[none]++[none]++[none]) (E0++[jD rows.length]++[D.int .u64 ((a:Nat):Int)]++[jD a]):=((lq.app dC.om).app dC.om).app dC.om;have cr3:=dG (r:=[jD a]) (dG (r:=[D.int .u64 ((a:Nat):Int)]) (dG (r:=[jD rows.length]) EJ));have g0':=dG (r:=[jD a]) (dG (r:=[D.int .u64 ((a:Nat):Int)]) (dG (r:=[jD rows.length]) g0));generalize cq0:E0++[jD rows.length]++[D.int .u64 ((a:Nat):Int)]++[jD a]=E3 at*;have BX:(E3++(jD jx::dI))[77]? =some (jD jx):=by
   rw[xq MK,zm];rfl
  have fW:aF (.pR 1) [.sl rows,jD jx]=some (.sl (rows.drop jx)):=Jh MK (fun row h=>by obtain⟨d,rfl,_⟩:=hb row h;rfl);refine e_ (eM (d2 (dG g0') rfl) (eM (d2 BX rfl) rfl)) fW rfl ?_;have BO:(E3++(jD jx::dI)).length=142:=by simp[zm,lj]
  have BN:(E3++(jD jx::dI)++[D.sl (rows.drop jx)]).length=143:=by simp[zm,lj]
  have hk5:dC MH (E3++(jD jx::dI)++[D.sl (rows.drop jx)]):=(HM.app (dC.app (x:=[jD jx]) (dC.one ⟨jx,rfl,by show jx<18446744073709551616;omega⟩) (dC.ol lj hnu))).app dC.om;have bC4:=kF (d:=D.sl (rows.drop jx)) BO;have bC2:=dG (r:=[D.sl (rows.drop jx)]) (dG (r:=jD jx::dI) wH);have bC1:=dG (r:=[D.sl (rows.drop jx)]) BX;generalize cp9:E3++(jD jx::dI)++[D.sl (rows.drop jx)]=E5 at*;show Wp F X 117 (F0 L1 (.op (.bin .add 0) [cd 76,cd 77] (.br (.bin .eql 0) [cd 145,.int .i64 64] (F0 (GV (Ie BV)) JD) IN))) E5 _;refine zX L1 (Ef MH) K1 143 145 E5 BN (Po hk5) H9 (fun new q1 q2=> ?_);refine e_ (eM (d2 (dG bC2) rfl) (eM (d2 (dG bC1) rfl) rfl)) (bg (a:=a) (b:=jx) MK) rfl ?_;have bC3:=kF (d:=jD (a+jx)) q1;have ZE:=dG (r:=[jD (a+jx)]) (dG (r:=new) bC4);have fin:∀(K:T (Option xO)) (us:C3) (env:Di),(∀c k,T.get none K c=some k->∃d,env[c]? =some d/\l6 k d)->qT K us=some kx->env[142]? =some (D.sl (rows.drop jx))->∃ds,aH (aX (lk env)) (cd 142::us)=some ds/\Rn F X 117 1 ds (fun o=>im kx o):=fun K us env h1 h2 h3=>by
   obtain⟨ds,e1,e2⟩:=zG h1 us kx h2;obtain⟨ws',fk,bs6,rfl,e3⟩:=HS.of e2;exact⟨_,eM (d1 h3 rfl) e1,ih (rows.drop jx) ws' fk bs6 (by rw[List.length_drop];omega) MK (hb.drop jx) e3⟩
  have ry:∀c k,T.get none K1 c=some k->∃d,(E5++new++[jD (a+jx)])[c]? =some d/\l6 k d:=fun c k nu=>(q2 c k nu).imp fun d ⟨h1,h2⟩=>⟨dG h1,h2⟩
  refine d_ (eM (d2 bC3 rfl) rfl) (ay (a:=((a+jx:Nat):Int)) (b:=64)) (fun _=> ?_) (fun _=> ?_)
  ·refine zX (GV (Ie BV)) K1 K2 146 n2 _ (by rw[xa,q1];rfl) ry H8 (fun ab8 r1 r2=> ?_);obtain⟨ds,e1,e2⟩:=fin K2 (D6 JD) _ r2 hU2 (dG ZE);exact Wp.jump e1 e2
  ·obtain⟨ds,e1,e2⟩:=fin K1 (D6 IN) _ ry hU1 ZE;exact Wp.jump e1 e2
end
def DC:Nat->DT->sH|0,_=>[]|n+1,.op k a t=>(k,a)::DC n t|_,_=>[]
def rc:Nat->DT->DT|0,t=>t|n+1,.op _ _ t=>rc n t|_,t=>t
theorem EY:∀(n:Nat) (t:DT),F0 (DC n t) (rc n t)=t
 |0,t=>rfl
 |n+1,.op k a t=>congrArg (DT.op k a) (EY n t)
 |n+1,.aQ .. =>rfl
 |n+1,.br .. =>rfl
 |n+1,.sw .. =>rfl
 |n+1,.note .. =>rfl
 |n+1,.call .. =>rfl
 |n+1,.jump .. =>rfl
 |n+1,.ret .. =>rfl
 |n+1,.pick .. =>rfl
 |n+1,.stop=>rfl
theorem WX{K:T (Option xO)}{env o:Di}{l:List (Option xO)}{n:Nat}(hn:env.length=n)(he:∀c k,T.get none K c=some k->∃d,env[c]? =some d/\l6 k d)(hk:dC l o):∀(c:Nat) (k:xO),T.get none (lG l n K) c=some k->∃d,(env++o)[c]? =some d/\l6 k d:=fun c k hc=>by
 rcases NP c k l n K hc with⟨j,h1,h2⟩|h1
 ·obtain⟨d,h3,h4⟩:=hk.2 j k h1;refine⟨d,?_,h4⟩;rw[h2,<-hn,xq MK,Nat.add_sub_cancel_left];exact h3
 ·obtain⟨d,h3,h4⟩:=he c k h1;exact⟨d,dG h3,h4⟩
theorem dC.us:∀{ks:JI} {l:Di},im ks l->dC (ks.map some) l
 |[],[],_=>⟨Y,fun i k h=>by simp at h⟩
 |[],_::_,h=>h.elim
 |_::_,[],h=>h.elim
 |k::ks,d::l,h=>dC.app (a:=[some k]) (x:=[d]) (dC.one h.1) (dC.us h.2)
theorem KJ{δ:FM}:∀{l:C3} {ds:Di},aH (aX δ) l=some ds->aH (bR δ) l=some ds
 |[],ds,h=>h
 |v::l,ds,h=>by
  obtain⟨d,r,rfl,h1,h2⟩:=jb h;exact eM (lE h1) (KJ h2)
theorem Cr{g:xM->KA}:∀{a b:C3} {x y:Di},aH g a=some x->aH g b=some y->aH g (a++b)=some (x++y)
 |[],b,x,y,h,h2=>by cases h;exact h2
 |v::a,b,x,y,h,h2=>by
  obtain⟨d,r,rfl,h1,h3⟩:=jb h;exact eM h1 (Cr h3 h2)
theorem Gk:∀(n:Nat) (ds:Di),ds.length=n->tH 1 n ds=some (ds.map fun d=>[d])
 |0,[],_=>rfl
 |0,_::_,h=>by simp at h
 |n+1,[],h=>by simp at h
 |n+1,d::ds,h=>by
  have:=Gk n ds (by simpa using h);show(if 1<=(d::ds).length then(tH 1 n ds).map fun r=>[d]::r else none)=_;rw[i_ NS,this];rfl
theorem BR.map{ds:Di}(h:vX .u8 ds):BR (ds.map fun d=>[d]):=fun row hr=>by
 obtain⟨d,hd,rfl⟩:=xJ.1 hr;exact⟨d,rfl,h d hd⟩
theorem BR.app{a b:Ca}(h:BR a)(g:BR b):BR (a++b):=fun row hr=>by
 rcases xF.1 hr with hr|hr
 ·exact h row hr
 ·exact g row hr
theorem BR.ol{m:Nat}:BR (List.replicate m [D.int .u8 0]):=fun row hr=>by
 rw[(List.mem_replicate.1 hr).2];exact⟨_,rfl,0,rfl,Pp⟩
theorem BR.set{a:Ca}(h:BR a)(i:Nat):BR (a.set i [D.int .u8 128]):=fun row hr=>by
 rcases List.mem_or_eq_of_mem_set hr with hr|rfl
 ·exact h row hr
 ·exact⟨_,rfl,128,rfl,Pp⟩
theorem Xd{a b:Ca}(hb:BR b)(h:a.length+b.length<=1000):aF (.app 1 1) [.sl a,.sl b]=some (.sl (a++b)):=by
 show(if b.all (fun r=>r.length==1&&r.all D.cell) then some b else none).bind (fun q=>if mX (a.length+q.length) 1 then some (D.sl (a++q)) else none)=_;rw[i_ hb.all];show(if mX (a.length+b.length) 1 then _ else _)=_;rw[i_ (by unfold mX;simp;omega)]
def Bt(x:Option (List xO))(l:JI):Bool:=match x with|some r=>decide (r=l)|none=>false
theorem F2{x:Option (List xO)}{l:JI}(h:Bt x l=true):x=some l:=by
 unfold Bt at h;split at h
 ·rw[of_decide_eq_true h]
 ·cases h
section
variable{X:Bv}
theorem O0{rows:Ca}{ws bs:Di}{gk:D}(hr:rows.length<=1000000000000)(hb:BR rows)(hs:HS ws bs gk):Rn F X 117 0 ((ws++(bs++[gk]))++[.sl rows]) (fun o=>im kx o):=by
 have h1:=aU8 (X:=X) _ rows ws bs gk (xk _) hr hb hs;have hl:=hs.len;have hc:=hs.cells;generalize ws++(bs++[gk])=st at*;refine wR Y (by simp[hl]) ?_;have hd:=zO (env:=st++[.sl rows]) st 0 (fun i d hi=>⟨dG (by rw[Nat.zero_add];exact hi),hc d (xu hi)⟩);rw[hl] at hd;exact b_ (eM (d1 (kF hl) rfl) hd) h1
def a8(t:DT):C3:=match t with| .note _ (.op _ a _)=>a|_=>[]
def aa6(t:DT):C3:=match t with| .ret _ _ us=>us|_=>[]
def LQ:DT:= .op (.bin .shl 0) [cd 73,.int .u64 3] aN3
def al4:Bool:=match tN (DC 17 LQ) (Ef ([none]++(kx.map some++List.replicate 7 none))) 81 with
 |some (K1,n)=>Nat.beq n 98&& (Bt (qT K1 (a8 (rc 17 LQ))) (List.replicate 8 .u8)&& (match tN (DC 56 Ja) (lG (kx.map some) 100 K1) 173 with
  |some (K2,_)=>Bt (qT K2 (aa6 (rc 56 Ja))) (List.replicate 32 .u8)
  |none=>false))
 |none=>false
theorem az2:al4=true:=by kernel_rfl
theorem bj3{env:Di}{st:Di}{q:Ca}(bk:im kx st)(hE:env.length=81)(hk:dC ([none]++(kx.map some++List.replicate 7 none)) env)(hs:∀i d,st[i]? =some d->env[1+i]? =some d)(hq:env[80]? =some (.sl q))(hb:BR q)(hql:q.length<=100):Wp F X 114 LQ env (fun o=>im (List.replicate 32 .u8) o):=by
 have h:=az2;unfold al4 at h;split at h;rotate_left
 ·cases h
 rename_i K1 n H9;simp only [xf] at h;obtain⟨e1,e2,e3⟩:=h;have e1:=xb e1;subst e1;have e2:=F2 e2;split at e3;rotate_left
 ·cases e3
 rename_i K2 n2 H8;have e3:=F2 e3;obtain⟨ws,bs,gk,rfl,hh⟩:=HS.of bk;rw[<-EY 17 LQ];refine zX _ _ K1 81 98 env hE (Po hk) H9 (fun new q1 q2=> ?_);refine wg 1 Y ?_;obtain⟨ds,f1,f2⟩:=zG q2 _ _ e2;obtain⟨f3,f4⟩:=f2.ol (n:=8);refine e_ (KJ f1) (d:= .sl (ds.map fun d=>[d])) (show(if ds.length=8*1 then(tH 1 8 ds).map D.sl else none)=_ by rw[i_ f3,Gk 8 ds f3];rfl) rfl<|e_ (eM (d2 (dG (dG hq)) rfl) (eM (d2 (kF q1) rfl) rfl)) (Xd (BR.map f4) (by rw[xm,f3];omega)) rfl<|wg 1 Y ?_;have Br:(env++new++[D.sl (ds.map fun d=>[d])]++[D.sl (q++ds.map fun d=>[d])]).length=100:=by rw[xa,xa,q1];rfl
 have H0:=zO (env:=env++new++[D.sl (ds.map fun d=>[d])]++[D.sl (q++ds.map fun d=>[d])]) (ws++(bs++[gk])) 1 (fun i d hi=>⟨dG (dG (dG (hs i d hi))),hh.cells d (xu hi)⟩);rw[hh.len] at H0;have Ax:=kF (l:=env++new++[D.sl (ds.map fun d=>[d])]) (n:=99) (d:=D.sl (q++ds.map fun d=>[d])) (by rw[xa,q1];rfl);have ry:∀c k,T.get none K1 c=some k->∃d,(env++new++[D.sl (ds.map fun d=>[d])]++[D.sl (q++ds.map fun d=>[d])])[c]? =some d/\l6 k d:=fun c k nu=>(q2 c k nu).imp fun d ⟨h1,h2⟩=>⟨dG (dG h1),h2⟩
 refine Wp.call (ds:=(ws++(bs++[gk]))++[.sl (q++ds.map fun d=>[d])]) (Cr H0 (eM (d1 Ax rfl) rfl)) (O0 (by rw[xa,xm,f3];omega) (hb.app (BR.map f4)) hh) (fun o ho=> .inl ⟨?_,?_⟩)
 ·obtain⟨w2,b2,t2,rfl,h2⟩:=HS.of ho;exact Cg _ 73 h2.len h2.cells
 show Wp F X _ Ja _ _;rw[<-EY 56 Ja];have mJ:o.length=73:=by obtain⟨w2,b2,t2,rfl,h2⟩:=HS.of ho;exact h2.len
 refine zX _ _ K2 173 n2 _ (by rw[xa,Br,mJ]) (WX Br ry (dC.us ho)) H8 (fun ab8 r1 r2=> ?_);obtain⟨pq,g1,g2⟩:=zG r2 _ _ e3;exact Wp.ret g1 g2
def LR:DT:= .op (.bin .shl 0) [cd 73,.int .u64 3] aN2
def al5:Bool:=match tN (DC 17 LR) (Ef ([none]++(kx.map some++List.replicate 6 none))) 80 with
 |some (K1,n)=>Nat.beq n 97&& (Bt (qT K1 (a8 (rc 17 LR))) (List.replicate 8 .u8)&& (match tN (DC 56 I9) (lG (kx.map some) 99 K1) 172 with
  |some (K2,_)=>Bt (qT K2 (aa6 (rc 56 I9))) (List.replicate 32 .u8)
  |none=>false))
 |none=>false
theorem az3:al5=true:=by kernel_rfl
theorem bj4{env:Di}{st:Di}{q:Ca}(bk:im kx st)(hE:env.length=80)(hk:dC ([none]++(kx.map some++List.replicate 6 none)) env)(hs:∀i d,st[i]? =some d->env[1+i]? =some d)(hq:env[79]? =some (.sl q))(hb:BR q)(hql:q.length<=100):Wp F X 114 LR env (fun o=>im (List.replicate 32 .u8) o):=by
 have h:=az3;unfold al5 at h;split at h;rotate_left
 ·cases h
 rename_i K1 n H9;simp only [xf] at h;obtain⟨e1,e2,e3⟩:=h;have e1:=xb e1;subst e1;have e2:=F2 e2;split at e3;rotate_left
 ·cases e3
 rename_i K2 n2 H8;have e3:=F2 e3;obtain⟨ws,bs,gk,rfl,hh⟩:=HS.of bk;rw[<-EY 17 LR];refine zX _ _ K1 80 97 env hE (Po hk) H9 (fun new q1 q2=> ?_);refine wg 1 Y ?_;obtain⟨ds,f1,f2⟩:=zG q2 _ _ e2;obtain⟨f3,f4⟩:=f2.ol (n:=8);refine e_ (KJ f1) (d:= .sl (ds.map fun d=>[d])) (show(if ds.length=8*1 then(tH 1 8 ds).map D.sl else none)=_ by rw[i_ f3,Gk 8 ds f3];rfl) rfl<|e_ (eM (d2 (dG (dG hq)) rfl) (eM (d2 (kF q1) rfl) rfl)) (Xd (BR.map f4) (by rw[xm,f3];omega)) rfl<|wg 1 Y ?_;have Br:(env++new++[D.sl (ds.map fun d=>[d])]++[D.sl (q++ds.map fun d=>[d])]).length=99:=by rw[xa,xa,q1];rfl
 have H0:=zO (env:=env++new++[D.sl (ds.map fun d=>[d])]++[D.sl (q++ds.map fun d=>[d])]) (ws++(bs++[gk])) 1 (fun i d hi=>⟨dG (dG (dG (hs i d hi))),hh.cells d (xu hi)⟩);rw[hh.len] at H0;have Ax:=kF (l:=env++new++[D.sl (ds.map fun d=>[d])]) (n:=98) (d:=D.sl (q++ds.map fun d=>[d])) (by rw[xa,q1];rfl);have ry:∀c k,T.get none K1 c=some k->∃d,(env++new++[D.sl (ds.map fun d=>[d])]++[D.sl (q++ds.map fun d=>[d])])[c]? =some d/\l6 k d:=fun c k nu=>(q2 c k nu).imp fun d ⟨h1,h2⟩=>⟨dG (dG h1),h2⟩
 refine Wp.call (ds:=(ws++(bs++[gk]))++[.sl (q++ds.map fun d=>[d])]) (Cr H0 (eM (d1 Ax rfl) rfl)) (O0 (by rw[xa,xm,f3];omega) (hb.app (BR.map f4)) hh) (fun o ho=> .inl ⟨?_,?_⟩)
 ·obtain⟨w2,b2,t2,rfl,h2⟩:=HS.of ho;exact Cg _ 73 h2.len h2.cells
 show Wp F X _ I9 _ _;rw[<-EY 56 I9];have mJ:o.length=73:=by obtain⟨w2,b2,t2,rfl,h2⟩:=HS.of ho;exact h2.len
 refine zX _ _ K2 172 n2 _ (by rw[xa,Br,mJ]) (WX Br ry (dC.us ho)) H8 (fun ab8 r1 r2=> ?_);obtain⟨pq,g1,g2⟩:=zG r2 _ _ e3;exact Wp.ret g1 g2
def gL(t:DT):C3:=match t with| .note _ (.call _ _ us _ _ _)=>us.take 73|_=>[]
theorem aZ3:Bt (qT (T.full none 12) (gL YN)) kx=true:=by kernel_rfl
theorem Yl{n c:Nat}(h:n<=c)(hc:c<=1000):aF (.n0 1 1) [jD n,jD c,.int .u8 0]=some (.sl (List.replicate n [.int .u8 0])):=by
 show(if _ then _ else none)=_;rw[i_ ⟨rfl,h,by simp[mX];omega⟩]
theorem X6{rows:Ca}(hr:rows.length<=1000000000000)(hb:BR rows):Rn F X 114 0 [.sl rows] (fun o=>im (List.replicate 32 .u8) o):=by
 refine wr Y<|wg 1 Y ?_;obtain⟨ds,f1,f2⟩:=zG (env:=[D.sl rows]) (K:=T.full none 12) (fun c k h=>by rcases T.B7 (none:Option xO) none 12 c with e|e<;>(rw[e] at h;cases h)) (gL YN) kx (F2 aZ3);obtain⟨ws,bs,gk,rfl,hh⟩:=HS.of f2;refine Wp.call (ds:=(ws++(bs++[gk]))++[.sl rows]) (Cr f1 (eM (d1 (env:=[D.sl rows]) (i:=0) rfl rfl) rfl)) (O0 hr hb hh) (fun o ho=> .inl ⟨?_,?_⟩)
 ·obtain⟨w2,b2,t2,rfl,h2⟩:=HS.of ho;exact Cg _ 73 h2.len h2.cells
 clear f1 f2 hh;have hko:=dC.us ho;have mJ:o.length=73:=by obtain⟨w2,b2,t2,rfl,h2⟩:=HS.of ho;exact h2.len
 have EJ:∃T0:Nat,([D.sl rows]++o)[73]? =some (D.int .u64 (.ofNat T0)):=by
  obtain⟨d,h1,T0,rfl,h3⟩:=hko.2 72 .u64 rfl;exact⟨T0,by rw[xq NS];exact h1⟩
 obtain⟨T0,EJ⟩:=EJ;have zt:([D.sl rows]++o).length=74:=by rw[xa,mJ];rfl
 have lq:dC ([none]++kx.map some) ([D.sl rows]++o):=dC.app dC.om hko;have uy:∀i d,o[i]? =some d->([D.sl rows]++o)[1+i]? =some d:=fun i d hi=>by
  rw[xq NS,show 1+i - [D.sl rows].length=i by simp];exact hi
 generalize [D.sl rows]++o=E0 at*;have ha:T0%64<64:=Nat.mod_lt _ MK;refine e_ (eM (d2 EJ rfl) rfl) (ka (a:=T0) (b:=64) .u64 MK) rfl ?_;generalize T0%64=a at*;have EI:=kF (d:=D.int .u64 ((a:Nat):Int)) zt;have wB:aF (.kS .i64) [D.int .u64 ((a:Nat):Int)]=some (jD a):=by
  show some (D.int .i64 (IntKind.i64.wrap (a:Int)))=_;rw[IntWalk.i64_in _ MK]
 refine e_ (eM (d2 EI rfl) rfl) wB Y ?_;have Mw:(E0++[D.int .u64 ((a:Nat):Int)]).length=75:=by rw[xa,zt];rfl
 have TV:=kF (d:=jD a) Mw;refine e_ (eM rfl (eM (d2 TV rfl) rfl)) (rQ (a:=56) (b:=(a:Int)) MK MK) rfl ?_;have Mv:(E0++[D.int .u64 ((a:Nat):Int)]++[jD a]).length=76:=by rw[xa,Mw];rfl
 have wH:=kF (d:=D.int .i64 (56 - (a:Int))) Mv;have zm:(E0++[D.int .u64 ((a:Nat):Int)]++[jD a]++[D.int .i64 (56 - (a:Int))]).length=77:=by rw[xa,Mv];rfl
 have HM:dC (([none]++kx.map some)++[none]++[none]++[none]) (E0++[D.int .u64 ((a:Nat):Int)]++[jD a]++[D.int .i64 (56 - (a:Int))]):=((lq.app dC.om).app dC.om).app dC.om;have mH:∀i d,o[i]? =some d->(E0++[D.int .u64 ((a:Nat):Int)]++[jD a]++[D.int .i64 (56 - (a:Int))])[1+i]? =some d:=fun i d hi=>dG (dG (dG (uy i d hi)))
 generalize E0++[D.int .u64 ((a:Nat):Int)]++[jD a]++[D.int .i64 (56 - (a:Int))]=E3 at*;refine d_ (eM (d2 wH Y) rfl) (ke (a:=56 - (a:Int)) (b:=0)) (fun aN=> ?_) (fun aN=> ?_)
 ·have e1:(56 - (a:Int))+64=((120 - a:Nat):Int):=MK
  refine e_ (eM (d2 wH Y) rfl) (d:=jD (120 - a)) (by rw[Xe MK MK,e1]) rfl ?_;have BX:=kF (d:=jD (120 - a)) zm;refine e_ (eM (d2 BX rfl) rfl) (bg (a:=120 - a) (b:=8) MK) rfl ?_;have BO:(E3++[jD (120 - a)]).length=78:=by rw[xa,zm];rfl
  have MA:=kF (d:=jD (120 - a+8)) BO;refine e_ (eM (d2 (dG BX) rfl) (eM (d2 MA rfl) rfl)) (Yl (n:=120 - a) (c:=120 - a+8) MK MK) rfl ?_;have BN:(E3++[jD (120 - a)]++[jD (120 - a+8)]).length=79:=by rw[xa,BO];rfl
  have g79:=kF (d:=D.sl (List.replicate (120 - a) [D.int .u8 0])) BN;refine Wp.nz (eM (d2 g79 rfl) rfl) (show some (D.bool (decide (0<(List.replicate (120 - a) [D.int .u8 0]).length)))=_ by rw[List.length_replicate,u_ MK]) ?_;have bk:aF (.kj 0) [D.sl (List.replicate (120 - a) [D.int .u8 0]),.int .i64 0,.int .u8 128]=some (.sl ((List.replicate (120 - a) [D.int .u8 0]).set 0 [D.int .u8 128])):=by
   obtain⟨m,hm⟩:∃m,120 - a=m+1:=⟨119 - a,MK⟩;rw[hm];rfl
  refine e_ (eM (d2 g79 rfl) rfl) bk rfl ?_;have hE6:(E3++[jD (120 - a)]++[jD (120 - a+8)]++[D.sl (List.replicate (120 - a) [D.int .u8 0])]).length=80:=by rw[xa,BN];rfl
  exact bj3 ho (by rw[xa,hE6];rfl) ((((HM.app dC.om).app dC.om).app dC.om).app dC.om) (fun i d hi=>dG (dG (dG (dG (mH i d hi))))) (kF hE6) (BR.set BR.ol 0) (by rw[xt,List.length_replicate];omega)
 ·have e1:56 - (a:Int)=((56 - a:Nat):Int):=MK
  rw[e1] at wH aN;refine e_ (eM (d2 wH Y) rfl) (bg (a:=56 - a) (b:=8) MK) rfl ?_;have BX:=kF (d:=jD (56 - a+8)) zm;refine e_ (eM (d2 (dG wH) rfl) (eM (d2 BX rfl) rfl)) (Yl (n:=56 - a) (c:=56 - a+8) MK MK) rfl ?_;have BO:(E3++[jD (56 - a+8)]).length=78:=by rw[xa,zm];rfl
  have MA:=kF (d:=D.sl (List.replicate (56 - a) [D.int .u8 0])) BO;refine Wp.nz (eM (d2 MA rfl) rfl) (show some (D.bool (decide (0<(List.replicate (56 - a) [D.int .u8 0]).length)))=_ by rw[List.length_replicate,u_ MK]) ?_;have bk:aF (.kj 0) [D.sl (List.replicate (56 - a) [D.int .u8 0]),.int .i64 0,.int .u8 128]=some (.sl ((List.replicate (56 - a) [D.int .u8 0]).set 0 [D.int .u8 128])):=by
   obtain⟨m,hm⟩:∃m,56 - a=m+1:=⟨55 - a,MK⟩;rw[hm];rfl
  refine e_ (eM (d2 MA rfl) rfl) bk rfl ?_;have BN:(E3++[jD (56 - a+8)]++[D.sl (List.replicate (56 - a) [D.int .u8 0])]).length=79:=by rw[xa,BO];rfl
  exact bj4 ho (by rw[xa,BN];rfl) (((HM.app dC.om).app dC.om).app dC.om) (fun i d hi=>dG (dG (dG (mH i d hi)))) (kF BN) (BR.set BR.ol 0) (by rw[xt,List.length_replicate];omega)
end
open Go.Ex Go.RowKit Go.Fl
section
variable{X:Bv}
theorem aE0(hX:mN X)(hP:wQ X)(hI:wS X)(h7:CZ X){f:dj}(hf:tw f):Rn F X 106 0 f.s (B5 500000000):=by
 have c0:=Oc hX hf;have L1:LN X 1:=L4 MK;have L0:LN X 0:=L4 MK;have Mj:=qY hf.name;have h2:=hf.flags.1;have h9:=hf.links.1;have h3:=hf.comps.2.1;have GF:∀(aa V:List Cm),f.comps=V++aa->∀t':EH,1<=t'.length->t'.length<=200000+3000000*V.length->Rn F X 106 3 [.sl (f.comps.map Cm.s),jD f.comps.length,jD V.length,.sl (bG t'),jD 1] (B5 500000000):=by
  intro aa
  induction aa with
  |nil=>
   intro V aI t' q1 q2;rw[xj] at aI;have hp':V.length=f.comps.length:=by rw[aI]
   refine wr Y<|wn Y af<|wo Y (eO (a:=1) (b:=1) MK MK)<|wg 2 Y<|wx Y (L0 [[125]] NS (by simp only [cW,xi,xd];omega) t' MK) fun|_,⟨t3,rfl,wF,TS⟩=>⟨Y,?_⟩
   exact wo Y (au (rF _))<|nR<|wy Y (nZ (k:=0) (rF _))<|wo Y (V9 MK)<|wt Y ⟨t3,rfl,MK⟩
  |cons a aa cS=>
   intro V aI t' q1 q2;have aE:=bC aI;have ao:=cz (f:=Cm.s) aI;have next:=cS (V++[a]) (by rw[aI,bA]);rw[xa] at next;have e1:V.length+[a].length=V.length+1:=rfl;rw[e1] at next;have cc:=aA8 (X:=X) hP hI h7 (hf.comps.2.2 a (by rw[aI];simp)) (t:=t') MK;obtain⟨a1,a2,a3⟩:=a;refine wr Y<|wy Y af<|wo Y (ax ao Y)<|wg 1 Y<|w9<|wg 1 Y<|wx Y cc fun|_,⟨t2,rfl,EG,BS⟩=>⟨Y,?_⟩
   refine wo Y oA<|b_ Y ?_;have hb:t2.length<=200000+3000000*(V.length+1):=by rw[Nat.mul_add,Nat.mul_one,<-Nat.add_assoc];exact xH BS (Nat.add_le_add_right q2 _)
   exact next t2 MK hb
 have Am:∀(aa V:List Lk),f.links=V++aa->∀t':EH,1<=t'.length->t'.length<=20000+6200*V.length->Rn F X 106 2 [.sl (f.links.map Lk.d),jD f.links.length,jD V.length,.str f.name,.sl (f.flags.map Fg.d),.sl (f.comps.map Cm.s),.sl (bG t'),jD 1] (B5 500000000):=by
  intro aa
  induction aa with
  |nil=>
   intro V aI t' q1 q2;rw[xj] at aI;have hp':V.length=f.links.length:=by rw[aI]
   exact wr Y<|wn Y af<|wo Y (au (xm _))<|b_ Y (GF f.comps [] rfl t' q1 Of)
  |cons a aa cS=>
   intro V aI t' q1 q2;have aE:=bC aI;have ao:=cz (f:=Lk.d) aI;have next:=cS (V++[a]) (by rw[aI,bA]);rw[xa] at next;have e1:V.length+[a].length=V.length+1:=rfl;rw[e1] at next;have ha:=hf.links.2 a (by rw[aI];simp);have g1:=qY ha.src;have g2:=qY ha.dst;obtain⟨s9,y5,ci⟩:=hI.K6 a.y0 (by have:=ha.y0;omega);obtain⟨a1,a2,a3⟩:=a;simp only at g1 g2 ci;refine wr Y<|wy Y af<|wo Y (ax ao Y)<|wg 1 Y<|lS<|wl Y ci rfl<|wg 2 Y<|wx Y (L1 [[108,105,110,107,32],a1,[32,45,62,32],a2,[32,108,97,116,101,110,99,121,32],s9,[59]] NS (by simp only [cW,xi,xd];omega) t' MK) fun|_,⟨t2,rfl,EG,BS⟩=>⟨Y,?_⟩
   exact wo Y oA<|gV<|b_ Y (next t2 MK MK)
 have Az:∀(aa V:List Fg),f.flags=V++aa->∀t':EH,1<=t'.length->t'.length<=1000+6200*V.length->Rn F X 106 1 [.sl (f.flags.map Fg.d),jD f.flags.length,jD V.length,.str f.name,.sl (f.links.map Lk.d),.sl (f.comps.map Cm.s),.sl (bG t'),jD 1] (B5 500000000):=by
  intro aa
  induction aa with
  |nil=>
   intro V aI t' q1 q2;rw[xj] at aI;have hp':V.length=f.flags.length:=by rw[aI]
   exact wr Y<|wn Y af<|wo Y (au (xm _))<|b_ Y (Am f.links [] rfl t' q1 Of)
  |cons a aa cS=>
   intro V aI t' q1 q2;have aE:=bC aI;have ao:=cz (f:=Fg.d) aI;have next:=cS (V++[a]) (by rw[aI,bA]);rw[xa] at next;have e1:V.length+[a].length=V.length+1:=rfl;rw[e1] at next;have g1:=qY (hf.flags.2 a (by rw[aI];simp));obtain⟨a1,a2⟩:=a;simp only at g1;cases a2
   ·refine wr Y<|wy Y af<|wo Y (ax ao Y)<|wg 2 Y<|dF<|wl Y ak7 rfl<|wg 2 Y<|wx Y (L1 [[102,108,97,103,32],a1,[32,61,32],[102,97,108,115,101],[59]] NS (by simp only [cW,xi,xd];omega) t' MK) fun|_,⟨t2,rfl,EG,BS⟩=>⟨Y,?_⟩
    exact wo Y oA<|oe<|b_ Y (next t2 MK MK)
   ·refine wr Y<|wy Y af<|wo Y (ax ao Y)<|wg 1 Y<|dF<|wl Y bC7 rfl<|wg 2 Y<|wx Y (L1 [[102,108,97,103,32],a1,[32,61,32],[116,114,117,101],[59]] NS (by simp only [cW,xi,xd];omega) t' MK) fun|_,⟨t2,rfl,EG,BS⟩=>⟨Y,?_⟩
    exact wo Y oA<|oe<|b_ Y (next t2 MK MK)
 have g:=Az f.flags [] rfl;have a0:aF (.app 1 1) [.sl [],.str [102,108,101,101,116,32]]=some (.sl (bG [102,108,101,101,116,32])):=uZ (t:=[]) NS;have c0:Rn F X 41 0 [.str f.name,.sl (f.flags.map Fg.d),.sl (f.links.map Lk.d),.sl (f.comps.map Cm.s)] (·=[iD 0]):=c0;show Rn F X 106 0 [.str f.name,.sl (f.flags.map Fg.d),.sl (f.links.map Lk.d),.sl (f.comps.map Cm.s)] _;exact wr Y<|wl Y c0 Y<|wg 2 Y<|wo Y a0<|wg 1 Y<|wo Y (uZ Pe)<|wg 1 Y<|w8<|wg 1 Y<|wo Y (uZ Pe)<|wg 2 Y<|wo Y (Xc Pe)<|wo Y (au (ch _ _))<|lS<|b_ Y (g _ Pe Pe)
def Bk(l:Di):Prop:=im (List.replicate 32 .u8) l
theorem Bk.len{l:Di}(h:Bk l):l.length=32:=h.ol.1
theorem Bk.cells{l:Di}(h:Bk l):∀d∈l,d.cell=true:=fun d hd=>zN (h.ol.2 d hd)
theorem az7(s:EH):BR (bG s):=fun row hr=>by
 obtain⟨b,_,rfl⟩:=xJ.1 hr;exact⟨_,rfl,b.toNat,rfl,b.toNat_lt⟩
theorem aI1{E ids:Di}{n:Nat}(hE:E.length=n)(hc:∀d∈ids,d.cell=true):aH (aX (lk (E++ids))) (B3 n ids.length)=some ids:=
 zO ids n fun i d hi=>⟨by rw[<-hE,xq MK,Nat.add_sub_cancel_left];exact hi,hc d (xu hi)⟩
def qO(f:dj)(src:aq)(ids:Di)(rows:Ca):Di:=f.s++[.str src]++(ids++[.ptr [.sl rows] 0])
def ny(f:dj)(src:aq)(ids:Di)(rows:Ca):D:= .ptr (qO f src ids rows) 0
def OfQ(ar:Dw)(f:dj)(o:Di):Prop:=∃(src:aq) (rows:Ca) (ids:Di),o=[ny f src ids rows,iD 0]/\Ds ar rows/\Bk ids
theorem bk4(hX:mN X)(hP:wQ X)(hI:wS X)(h7:CZ X){ar:Dw}{f:dj}(hf:gU ar f):Rn F X 107 0 f.s (OfQ ar f):=by
 have c1:=av1 hX hI hf;have c2:=aE0 hX hP hI h7 hf.ok;have c3:=XP (X:=X) hf.ok;obtain⟨nm,fl,lk,cs⟩:=f;have sm:=fun(s:EH) (h:s.length<=500000000)=>X6 (X:=X) (rows:=bG s) (by rw[rF];omega) (az7 s)
 refine wr Y<|wg 1 Y<|wx Y c1 fun|_,⟨rows,rfl,hr⟩=>⟨Y,?_⟩
 refine wg 2 Y<|wx Y c2 fun|_,⟨s,rfl,hs⟩=>⟨Y,?_⟩
 refine wl Y c3 Y<|dF<|wg 1 Y<|wo Y (uZ (t:=[]) (by simp only [xd];omega))<|wg 1 Y<|wx Y (sm s hs) ?_;intro ids ub;have ub:Bk ids:=ub;refine⟨Cg ids 32 ub.len ub.cells,?_⟩;dsimp only [ew,Ex.r,St.r,c_,n_,kK,kJ,kI,kH,kG,dj.s];have hd:=fun(E:Di) (hE:E.length=13)=>aI1 (ids:=ids) hE ub.cells
 rw[ub.len] at hd;refine e_ (KJ (Cr (a:=[cd 7,cd 8,cd 9,cd 10,cd 6]) rfl (Cr (hd [_,_,_,_,_,_,_,_,_,_,_,_,_] rfl) (b:=[cd 4]) rfl))) rfl rfl<|Wp.ret (eM (d1 (kF (by simp only [xi,ub.len])) rfl) rfl) ⟨s,rows,ids,rfl,hr,ub⟩
def bs3(o:Di):Prop:=∃(f:dj) (ar:Dw) (src:aq) (rows:Ca) (ids:Di),o=ny f src ids rows::f.r/\gU ar f/\Ds ar rows/\Bk ids
theorem aP6(p:ui):Rn F X 108 0 p.d bs3:=by
 have c1:=Od (X:=X) p;obtain⟨fl,L,C⟩:=p;refine wr Y<|wg 1 Y<|wx Y c1 ?_;rintro _ ⟨f,ar,rfl,hf⟩;have c2:=av8 (X:=X) hf.ok;have c3:=bk4 (X:=X) ⟨ax5⟩ gE aQ2 (aA4 gE) hf;obtain⟨nm,TX,lk,cs⟩:=f;refine⟨rfl,?_⟩;refine wg 1 Y<|w7<|wL Y c2 Y<|dF<|wg 1 Y<|wx Y c3 fun|_,⟨src,rows,ids,rfl,hr,ub⟩=>⟨Y,?_⟩
 exact wg 1 Y<|wt Y ⟨⟨nm,TX,lk,cs⟩,ar,src,rows,ids,rfl,hf,hr,ub⟩
end
open Go.Ex Go.RowKit Go.Sort Go.Fl
def cq:L5->aq->Ji|[],_=>none|x::t,s=>if x=s then some 0 else(cq t s).map (· +1)
def n6(i:Nat):Option Nat->List D|none=>[jD 0,.bool false]|some j=>[jD (j+i),.bool true]
theorem NU(i:Nat)(o:Ji):n6 i (o.map (· +1))=n6 (i+1) o:=by
 cases o with
 |none=>rfl
 |some j=>show[jD (j+1+i),_]=[jD (j+(i+1)),_];rw[Nat.add_right_comm,Nat.add_assoc]
section
variable{X:Bv}
theorem Yo{l:List Vr}(hl:l.length<=1000)(s:aq):∀(aa V:List Vr),l=V++aa->Rn F X 120 1 [.ptr [.sl (l.map Vr.s)] 0,.ptr [.str s] 0,jD l.length,jD V.length] (·=n6 V.length (cq (aa.map (·.name)) s))
 |[],V,h=>by
  have aL:l.length=V.length:=by rw[h,xj]
  exact wr Y<|wn Y af<|wt Y Y
 |v::aa,V,h=>by
  have aL:l.length=V.length+(aa.length+1):=by rw[h,xa];rfl
  have ao:(l.map Vr.s)[V.length]? =some v.s:=by rw[h,List.map_append,xq (by rw[xm];exact xk _),xm,Nat.sub_self];rfl
  refine wr Y<|wy Y af<|wg 1 Y<|wo Y (ax ao Y)<|wg 3 Y ?_;show Wp F X 120 _ _ (·=n6 V.length (if v.name=s then some 0 else(cq (aa.map (·.name)) s).map (· +1)));refine d_ (ds:=[.str v.name,.str s]) rfl jk (fun e=> ?_) (fun e=> ?_)
  ·rw[i_ e];exact wt Y (by show _=[jD (0+V.length),_];rw[Nat.zero_add])
  ·rw[j_ e,NU];have ih:=Yo hl s aa (V++[v]) (by rw[h,a_];rfl);rw[xa] at ih;exact wo Y oA<|wj ih
theorem Yq{f:dj}{src:aq}{ids:Di}{rows:Ca}(hl:f.comps.length<=1000)(s:aq):∀(aa V:List Cm),f.comps=V++aa->Rn F X 118 1 [.ptr [ny f src ids rows] 0,.ptr [.str s] 0,jD f.comps.length,jD V.length] (·=n6 V.length (cq (aa.map (·.name)) s))
 |[],V,h=>by
  have aL:f.comps.length=V.length:=by rw[h,xj]
  exact wr Y<|wn Y af<|wt Y Y
 |v::aa,V,h=>by
  have aL:f.comps.length=V.length+(aa.length+1):=by rw[h,xa];rfl
  have ao:(f.comps.map Cm.s)[V.length]? =some v.s:=by rw[h,List.map_append,xq (by rw[xm];exact xk _),xm,Nat.sub_self];rfl
  refine wr Y<|wy Y af<|wg 2 Y<|wn Y af<|wg 5 Y<|wo Y bc<|Wp.c8 Y eP (by rw[xm];omega)<|wg 4 Y<|wo Y (ax ao Y)<|wg 1 Y ?_;show Wp F X 118 _ _ (·=n6 V.length (if v.name=s then some 0 else(cq (aa.map (·.name)) s).map (· +1)));dsimp only [Cm.s,c_,n_];refine d_ (ds:=[.str v.name,.str s]) rfl jk (fun e=> ?_) (fun e=> ?_)
  ·rw[i_ e];exact wt Y (by show _=[jD (0+V.length),_];rw[Nat.zero_add])
  ·rw[j_ e,NU];have ih:=Yq (src:=src) (ids:=ids) (rows:=rows) hl s aa (V++[v]) (by rw[h,a_];rfl);rw[xa] at ih;exact wo Y oA<|wj ih
theorem Yp{f:dj}{src:aq}{ids:Di}{rows:Ca}(hl:f.flags.length<=1000)(s:aq):∀(aa V:List Fg),f.flags=V++aa->Rn F X 119 1 [.ptr [ny f src ids rows] 0,.ptr [.str s] 0,jD f.flags.length,jD V.length] (·=n6 V.length (cq (aa.map (·.name)) s))
 |[],V,h=>by
  have aL:f.flags.length=V.length:=by rw[h,xj]
  exact wr Y<|wn Y af<|wt Y Y
 |⟨vn,vb⟩::aa,V,h=>by
  have aL:f.flags.length=V.length+(aa.length+1):=by rw[h,xa];rfl
  have ao:(f.flags.map Fg.d)[V.length]? =some [.str vn,.bool vb]:=by rw[h,List.map_append,xq (by rw[xm];exact xk _),xm,Nat.sub_self];rfl
  refine wr Y<|wy Y af<|wg 2 Y<|wn Y af<|wg 5 Y<|wo Y bc<|Wp.c8 Y eP (by rw[xm];omega)<|wg 4 Y<|wo Y (ax ao Y) ?_;have ih:=Yp (src:=src) (ids:=ids) (rows:=rows) hl s aa (V++[⟨vn,vb⟩]) (by rw[h,a_];rfl);rw[xa] at ih;show Wp F X 119 _ _ (·=n6 V.length (if vn=s then some 0 else(cq (aa.map (·.name)) s).map (· +1)));have key:Wp F X 119 aW3 ([.ptr [ny f src ids rows] 0,.ptr [.str s] 0,jD f.flags.length,jD V.length,ny f src ids rows,.str s,ny f src ids rows,ny f src ids rows,.ptr (qO f src ids rows) 1,.sl (f.flags.map Fg.d),jD (f.flags.map Fg.d).length,ny f src ids rows,ny f src ids rows,.ptr (qO f src ids rows) 1,.sl (f.flags.map Fg.d),.ptr [.str vn,.bool vb] 0,.str vn,.bool vb]) (·=n6 V.length (if vn=s then some 0 else(cq (aa.map (·.name)) s).map (· +1))):=by
   refine d_ (ds:=[.str vn,.str s]) rfl jk (fun e=> ?_) (fun e=> ?_)
   ·rw[i_ e];exact wt Y (by show _=[jD (0+V.length),_];rw[Nat.zero_add])
   ·rw[j_ e,NU];exact wo Y oA<|wj ih
  cases vb with
  |true=>exact o_ Y Y Y key
  |false=>exact Wp.SZ Y Y Y (o_ Y Y Y key)
end
end
end Go.Proofs.YthicpeihkkokmaaGreatDoor
namespace Go.Fl
structure Cx where
 f:dj
 src:aq
 ids:List Go.Ex.D
 rows:List (List Go.Ex.D)
 i:Nat
 cm:Cm
def Cx.vn(x:Cx):L5:=x.cm.vars.map (·.name)
def Cx.fn(x:Cx):L5:=x.f.flags.map (·.name)
end Go.Fl
namespace Go.Proofs.YthicpeihkkokmaaGreatDoor
open Go.Ex Go.RowKit Go.Sort Go.Fl
structure Hp (x:Cx):Prop where
 hc:x.f.comps[x.i]? =some x.cm
 nv:x.cm.vars.length<=1000
 nf:x.f.flags.length<=1000
 nc:x.f.comps.length<=1000
def wN(x:Cx)(s:aq):Nd:=⟨1,(x.i:Nat),(((cq x.vn s).getD 0:Nat):Int)⟩
def rN(x:Cx)(s:aq):IU:=match cq x.vn s with
 |some v=>[⟨1,(x.i:Nat),(v:Nat)⟩]
 |none=>match cq x.fn s with
  |some k=>[⟨4,(k:Nat),0⟩]
  |none=>[]
def bx(x:Cx)(h:Nd)(l:IU)(E:Hj):Bd:=⟨qO x.f x.src x.ids x.rows,0,(x.i:Nat),h,l,E⟩
def Bd.x(b:Bd)(x:Cx):Prop:=∃h l E,b=bx x h l E
theorem Bd.x.iU{b:Bd}{x:Cx}(h:b.x x)(e:Nd×Nd):(b.iU e).x x:=by
 obtain⟨h,l,E,rfl⟩:=h;exact⟨h,_,_,rfl⟩
theorem Bd.x.jR{x:Cx}:∀(es:Hj) {b:Bd},b.x x->(b.jR es).x x
 |[],_,h=>h
 |e::es,_,h=>Bd.x.jR es (h.iU e)
theorem Nz(b:Bd)(u v:Hj):(b.jR u).jR v=b.jR (u++v):=(List.foldl_append ..).symm
theorem OO:∀(es:Hj) (b:Bd),(b.jR es).h=b.h
 |[],_=>rfl
 |e::es,b=>OO es (b.iU e)
section
variable{X:Bv}{x:Cx}(hx:Hp x)
include hx in
theorem XV{b:Bd}(hb:b.x x)(s:aq):Rn F X 122 0 (b.d++[.str s]) (·=[.int .u8 1,jD x.i]++n6 0 (cq x.vn s)++b.d):=by
 obtain⟨h,l,E,rfl⟩:=hb;have hi:=(xe.1 hx.hc).1;have ao:(x.f.comps.map Cm.s)[x.i]? =some x.cm.s:=by rw[xx,hx.hc];rfl
 have n1:=Yo (X:=X) hx.nv s x.cm.vars [] rfl;rw[show(bx x h l E).d=[ny x.f x.src x.ids x.rows,jD x.i,.int .u8 h.k,.int .i64 h.a,.int .i64 h.b,.sl (l.map cL),.sl (E.map lH)] from Y];refine wr Y<|wn Y af<|wg 5 Y<|wo Y bc<|Wp.c8 Y eP (by rw[xm];omega)<|wg 4 Y<|wo Y (ax ao Y)<|wg 1 Y ?_;dsimp only [Cm.s,c_,n_];refine wo Y bc<|wg 3 Y ?_;have n2:Rn F X 120 0 [jD (x.cm.vars.map Vr.s).length,.ptr [.sl (x.cm.vars.map Vr.s)] 0,.ptr [.str s] 0] (·=n6 0 (cq x.vn s)):=by
  rw[xm];exact wr Y<|wj n1
 cases hp:cq x.vn s with
 |none=>
  rw[hp] at n2;exact Wp.AG (f:=107) rfl n2 rfl<|wL Y n2 rfl<|wt Y Y
 |some v=>
  rw[hp] at n2;exact Wp.ig (f:=107) rfl n2 rfl<|wt Y Y
end
section
mutual
def wI(x:Cx)(o:Nd):Fl.Ex->Hj| .mk op name _ args=>(if op=5\/op=6\/op=7\/op=8 then(rN x name).map (·,o) else[])++DW x o args
def DW(x:Cx)(o:Nd):List Fl.Ex->List (Nd×Nd)|[]=>[]|e::l=>wI x o e++DW x o l
end
section
variable{X:Bv}{x:Cx}(hx:Hp x)
theorem aE7(hl:x.f.flags.length<=1000)(s:aq):Rn F X 119 0 [jD (x.f.flags.map Fg.d).length,.ptr [ny x.f x.src x.ids x.rows] 0,.ptr [.str s] 0] (·=n6 0 (cq x.fn s)):=by
 rw[xm];exact wr Y<|wj (Yp hl s x.f.flags [] rfl)
include hx in
theorem bd3{b:Bd}(hb:b.x x)(op:D)(dY:op.cell=true)(name:aq)(n:Nat)(args:List Fl.Ex){es:Hj}
 (loop:∀{b':Bd},b'.x x->b'.h=b.h->Rn F X 127 1 ([.sl (Ex.ss args),jD args.length,jD 0]++b'.d) (·=(b'.jR es).d)):
 Wp F X 127 WZ (b.d++[op,.str name,jD n,.sl (Ex.ss args)]) (·=(b.jR ((rN x name).map (·,b.h)++es)).d):=by
 have hv:=XV (X:=X) hx hb name;rw[<-Nz];unfold rN;cases hp:cq x.vn name with
 |some v=>
  rw[hp] at hv;refine wL Y hv rfl<|wl Y (Fj (b:=b) ⟨1,(x.i:Nat),(v:Nat)⟩) rfl<|wo Y bc<|b_ Y ?_;rw[gf];exact loop (hb.iU _) rfl
 |none=>
  rw[hp] at hv;refine wL Y hv rfl ?_;obtain⟨h,l,E,rfl⟩:=hb;have hn:=aE7 (X:=X) hx.nf name;refine wg 5 Y<|wo Y bc<|wg 3 Y ?_;cases hq:cq x.fn name with
  |some k=>
   rw[hq] at hn;refine wL Y hn rfl<|wg 1 Y ?_;dsimp only [c_,n_,n6];refine wL Y (Fj (b:=bx x h l E) ⟨4,(k:Nat),0⟩) rfl ?_;dsimp only [c_,n_,n6];refine wo Y bc<|b_ Y ?_;rw[gf];exact loop (Bd.x.iU ⟨h,l,E,rfl⟩ _) rfl
  |none=>
   rw[hq] at hn;refine wL Y hn rfl ?_;dsimp only [c_,n_,n6];refine wo Y bc<|b_ Y ?_;rw[gf];exact loop ⟨h,l,E,rfl⟩ rfl
include hx in
theorem aJ6{e:Fl.Ex}(he:jo gO e):∀{b:Bd},b.x x->Rn F X 127 0 (b.d++e.s) (·=(b.jR (wI x b.h e)).d):=by
 induction he with
 | @mk op name n args hn ha ih=>
  intro b hb;obtain⟨h1,h2,h3,h4,h5⟩:=hn.get;have dY:jr op<=2:=by unfold jr;split<;>(try split)<;>omega
  have loop:∀(aa V:List Fl.Ex),args=V++aa->∀{b:Bd},b.x x->Rn F X 127 1 ([.sl (Ex.ss args),jD args.length,jD V.length]++b.d) (·=(b.jR (DW x b.h aa)).d):=by
   intro aa
   induction aa with
   |nil=>
    intro V hp b hb;rw[xj] at hp;exact wr Y<|Wp.qQ Y (by rw[af,f_ (by rw[hp];omega)])<|wt Y Y
   |cons a aa dO=>
    intro V hp b hb;have hl:args.length=V.length+(aa.length+1):=by rw[hp,xa];rfl
    have ao:(Ex.ss args)[V.length]? =some a.s:=by rw[hp];exact qe _ _ _
    have has:a.s.length=4:=by obtain⟨_,_,_,_⟩:=a;rfl
    refine wr Y<|Wp.nz Y (by rw[af,u_ MK])<|wo Y (ax ao has) ?_;have c:=ih a (by rw[hp];simp) hb;have n2:=dO (V++[a]) (by rw[hp,a_];rfl) (hb.jR (wI x b.h a));rw[OO,Nz,xa] at n2;obtain⟨Ee,C5,n',args'⟩:=a;exact wg 1 Y<|wl Y c rfl<|wo Y oA<|wj n2
  have l0:=fun{b':Bd} (kQ:b'.x x)=>loop args [] rfl kQ
  have key:op=5\/op=6\/op=7\/op=8->Wp F X 127 WZ (b.d++[bD op,.str name,jD n,.sl (Ex.ss args)]) (·=(b.jR (wI x b.h ⟨op,name,n,args⟩)).d):=fun ho=>by
   have:=bd3 hx hb (bD op) rfl name n args (es:=DW x b.h args) (fun kQ e=>by have:=l0 kQ;rw[e] at this;exact this);unfold wI;rw[i_ ho];exact this
  refine wr Y<|d_ (ds:=[bD op,bD 5]) rfl ay (fun e=>Wp.note (key MK)) (fun e1=> ?_);refine d_ (ds:=[bD op,bD 6]) rfl ay (fun e=>Wp.note (key MK)) (fun e2=> ?_);refine d_ (ds:=[bD op,bD 7]) rfl ay (fun e=>Wp.note (key MK)) (fun e3=> ?_);refine d_ (ds:=[bD op,bD 8]) rfl ay (fun e=>Wp.note (key MK)) (fun e4=> ?_);unfold wI;rw[j_ MK];refine wo Y bc<|b_ Y ?_;rw[gf];exact l0 hb
end
end
end Go.Proofs.YthicpeihkkokmaaGreatDoor
namespace Go.Fl
inductive Us where|rd (s:aq)|wr (s:aq)|dk|sn (s:St)|tm (s:St)
mutual
def Ex.us:Ex->List Us| .mk _ name _ args=>(if name=[] then[] else[.rd name])++Ex.cg args
def Ex.cg:List Ex->List Us|[]=>[]|e::l=>Ex.us e++Ex.cg l
end
def St.nm:St->aq| .mk _ n _ _ _ _=>n
def St.hn:St->aq| .mk _ _ h _ _ _=>h
def cZ(s:St)(n:aq):Nat->List Us
 |1=>[.wr n]
 |2=>[.rd n,.wr n]
 |3=>[.rd n,.wr n]
 |6=>[.sn s]
 |7=>[.tm s]
 |8=>[.dk]
 |9=>[.rd n,.wr n,.dk]
 |_=>[]
mutual
def St.us:St->List Us| .mk k n h es th el=>cZ (.mk k n h es th el) n k++(Ex.cg es++(St.cg th++St.cg el))
def St.cg:List St->List Us|[]=>[]|s::l=>St.us s++St.cg l
end
theorem dL.mono{P Q:St->Prop}(H:∀s,P s->Q s){s:St}(h:dL P s):dL Q s:=by
 induction h with
 |mk h _ _ i1 i2=>exact .mk (H _ h) i1 i2
theorem dL.and{P Q:St->Prop}{s:St}(h:dL P s):dL Q s->dL (fun s=>P s/\Q s) s:=by
 induction h with
 |mk h _ _ i1 i2=>
  intro k;cases k with
  |mk k k1 k2=>exact .mk ⟨h,k⟩ (fun s hs=>i1 s hs (k1 s hs)) (fun s hs=>i2 s hs (k2 s hs))
def Sb(P:JH->Prop):St->Prop| .mk _ _ _ _ th el=>P th/\P el
theorem dL.eY{Q:St->Prop}{P:JH->Prop}(H:∀l:JH,(∀s∈l,Q s/\Sb P s)->P l){l:JH}(h:∀s∈l,dL Q s):P l:=by
 have:∀{s:St},dL Q s->Q s/\Sb P s:=fun h=>by
  induction h with
  |mk h _ _ i1 i2=>exact⟨h,H _ i1,H _ i2⟩
 exact H l fun s hs=>this (h s hs)
end Go.Fl
namespace Go.Proofs.YthicpeihkkokmaaGreatDoor
open Go.Ex Go.RowKit Go.Sort Go.Fl
def gK(ar:Dw)(i:Nat):L5:=aP 104 (ar[i]?.getD []).length
def cN(x:Cx)(s:aq):Nat:=(cq (x.f.comps.map (·.name)) s).getD 0
def hN(ar:Dw)(i:Nat)(s:aq):Nd:=⟨5,(i:Nat),(((cq (gK ar i) s).getD 0:Nat):Int)⟩
def sL(o y z:Nd):Hj:=[(o,y),(o,z),(y,z)]
def p7(ar:Dw)(x:Cx)(o:Nd):Us->Hj
 | .rd s=>(rN x s).map (·,o)
 | .wr s=>[(o,wN x s)]
 | .dk=>[(⟨2,(x.i:Nat),0⟩,o),(o,⟨2,(x.i:Nat),0⟩)]
 | .sn s=>sL o ⟨6,(x.i:Nat),(cN x s.nm:Nat)⟩ (hN ar (cN x s.nm) s.hn)
 | .tm s=>sL o ⟨3,(x.i:Nat),0⟩ (hN ar x.i s.hn)
def Il(ar:Dw)(x:Cx):St->Prop
 | .mk k n h _ _ _=>(k=1\/k=2\/k=3\/k=9->∃v,cq x.vn n=some v)/\
 (k=6->∃i al j,ar[i]? =some al/\n=[(97+i).toUInt8]/\j<al.length/\h=nm 104 j)/\
 (k=7->∃al j,ar[x.i]? =some al/\j<al.length/\h=nm 104 j)
mutual
theorem YH(ar:Dw)(x:Cx)(o:Nd):∀{e:Fl.Ex},jo gO e->wI x o e=(Ex.us e).flatMap (p7 ar x o)
 | .mk op name n args,h=>by
  have h1:gO ⟨op,name,n,args⟩/\∀a∈args,jo gO a:=by cases h;exact⟨‹_›,‹_›⟩
  have h2:=h1.1.get.2.2.2.2;rw[wI,Ex.us,List.flatMap_append,XH ar x o h1.2]
  congr 1
  rcases h2 with⟨h3,h4,h5⟩|⟨h3,rfl⟩
  ·rw[i_ MK,j_ (by rintro rfl;revert h5;decide)];exact(xj _).symm
  ·rw[j_ MK];rfl
theorem XH(ar:Dw)(x:Cx)(o:Nd):∀{l:List Fl.Ex},(∀e∈l,jo gO e)->DW x o l=(Ex.cg l).flatMap (p7 ar x o)
 |[],_=>rfl
 |e::l,h=>by
  rw[DW,Ex.cg,List.flatMap_append,YH ar x o (h e xn),XH ar x o fun e he=>h e (xo _ he)]
end
theorem Pg{s:aq}:∀{l:L5} {j:Nat},l[j]? =some s->l.Nodup->cq l s=some j
 |[],_,h,_=>nomatch h
 |x::l,0,h,_=>by
  cases h;exact i_ Y
 |x::l,j+1,h,hd=>by
  have hd:=List.nodup_cons.1 hd;have h:l[j]? =some s:=h;have hm:s∈l:=xu h;have:cq (x::l) s=(cq l s).map (· +1):=j_ fun e:x=s=>hd.1 (e▸hm)
  rw[this,Pg (s:=s) (l:=l) h hd.2];rfl
theorem Wb{l:L5}{g:Nat->aq}(h:∀i s,l[i]? =some s->s=g i)(inj:∀i j,i<l.length->j<l.length->g i=g j->i=j):l.Nodup:=by
 refine List.pairwise_iff_getElem.2 fun i j hi hj BE e=> ?_
 have:=inj i j hi hj (by rw[<-h i _ (xc hi),<-h j _ (xc hj),e]);omega
theorem Vj{c n:Nat}(hc:c<200)(hn:n<=100):(aP c n).Nodup:=by
 refine Wb (g:=nm c) (fun i s h=> ?_) fun i j hi hj e=> ?_
 ·rw[aP,xx] at h;obtain⟨k,h1,h2⟩:=xp.1 h;obtain⟨_,h1⟩:=xe.1 h1;rw[<-h2,<-h1,List.getElem_range]
 ·rw[Fx] at hi hj;exact(qW MK MK MK MK e).2
theorem aq2{ar:Dw}{f:dj}(hf:gU ar f):(f.comps.map (·.name)).Nodup:=by
 have hn:=hf.n;refine Wb (g:=fun i=>[(97+i).toUInt8]) (fun i s h=> ?_) fun i j hi hj e=> ?_
 ·rw[xx] at h;obtain⟨c,h1,h2⟩:=xp.1 h;rw[<-h2];exact(hf.comps i c h1).name
 ·rw[xm] at hi hj;exact CA MK MK e
structure eu (ar:Dw) (x:Cx):Prop where
 f:gU ar x.f
 p:Ds ar x.rows
 id:x.ids.length=32
 c:x.f.comps[x.i]? =some x.cm
theorem IQ{ar:Dw}{f:dj}(hf:gU ar f){i:Nat}(hi:i<ar.length):cq (f.comps.map (·.name)) [(97+i).toUInt8]=some i:=by
 have hn:=hf.n;have gw:i<f.comps.length:=MK
 refine Pg ?_ (aq2 hf);rw[xx,xc gw];exact congrArg some (hf.comps i _ (xc gw)).name
theorem Pf{n k:Nat}(hn:n<=3)(hk:k<n):cq (aP 104 n) (nm 104 k)=some k:=by
 refine Pg ?_ (Vj MK MK);rw[aP,xx,List.getElem?_range hk];rfl
end Go.Proofs.YthicpeihkkokmaaGreatDoor
namespace Go.Fl
mutual
def St.ur:St->List Us| .mk k n h es th el=>Ex.cg es++(cZ (.mk k n h es th el) n k++(St.eX th++St.eX el))
def St.eX:List St->List Us|[]=>[]|s::l=>St.ur s++St.eX l
end
mutual
theorem aY2:∀(s:St) (a:Us),a∈St.ur s↔a∈St.us s
 | .mk k n h es th el,a=>by
  simp only [St.ur,St.us,xF,Jk th a,Jk el a]
  grind
theorem Jk:∀(l:JH) (a:Us),a∈St.eX l↔a∈St.cg l
 |[],a=>Iff.rfl
 |s::l,a=>by simp only [St.eX,St.cg,xF,aY2 s a,Jk l a]
end
structure Ur where
 R:L5
 W:L5
 D:Bool
 S:JH
 T:JH
def Ur.add(u:Ur):Us->Ur
 | .rd s=>{u with R:=u.R++[s]}
 | .wr s=>{u with W:=u.W++[s]}
 | .dk=>{u with D:=true}
 | .sn s=>{u with S:=u.S++[s]}
 | .tm s=>{u with T:=u.T++[s]}
def Ur.d(u:Ur):List Go.Ex.D:=[.sl (strs u.R),.sl (strs u.W),.bool u.D,.sl (St.rs u.S),.sl (St.rs u.T)]
structure UrQ (u v:Ur) (uz:List Us):Prop where
 R:∀s,s∈v.R↔s∈u.R\/ .rd s∈uz
 W:∀s,s∈v.W↔s∈u.W\/ .wr s∈uz
 D:v.D=true↔u.D=true\/ .dk∈uz
 S:∀s,s∈v.S↔s∈u.S\/ .sn s∈uz
 T:∀s,s∈v.T↔s∈u.T\/ .tm s∈uz
 n:v.R.length+v.W.length+v.S.length+v.T.length<=u.R.length+u.W.length+u.S.length+u.T.length+uz.length
mutual
theorem Ex.CG:∀e:Ex,(Ex.us e).length<=e.sz
 | .mk _ name _ args=>by
  have:=Ex.tD args;rw[Ex.us,Ex.sz,xa];split<;>simp only [xd,xi]<;>omega
theorem Ex.tD:∀l:List Ex,(Ex.cg l).length<=Ex.fF l
 |[]=>xk _
 |e::l=>by
  have:=Ex.CG e;have:=Ex.tD l;rw[Ex.cg,Ex.fF,xa];omega
end
theorem WJ(s:St)(n:aq)(k:Nat):(cZ s n k).length<=3:=by
 unfold cZ;split<;>simp only [xd,xi]<;>omega
end Go.Fl
namespace Go.Proofs.YthicpeihkkokmaaGreatDoor
open Go.Ex Go.RowKit Go.Sort Go.Fl
theorem CG{s:St}(h:dL jy s):(St.us s).length<=200*s.n/\(St.ur s).length<=200*s.n:=by
 induction h with
 | @mk k n hd es th el h _ _ i1 i2=>
  have ex:(Ex.cg es).length<=3*63:=by
   have h1:=Ex.X4 fun a ha=>(h.ex a ha).1.LS (h.ex a ha).2
   have h2:=Ex.tD es;have h3:=h.ln;have h4:es.length*63<=3*63:=xD _ MK;omega
  have ls:∀l:JH,(∀s∈l,(St.us s).length<=200*s.n/\(St.ur s).length<=200*s.n)->(St.cg l).length<=200*St.ns l/\(St.eX l).length<=200*St.ns l:=by
   intro l hl
   induction l with
   |nil=>exact⟨xL _,xL _⟩
   |cons a l ih=>
    have h1:=hl a xn;have h2:=ih fun s hs=>hl s (xo _ hs)
    simp only [St.cg,St.eX,St.ns,xa];omega
  have h1:=ls th i1;have h2:=ls el i2;have h3:=WJ (.mk k n hd es th el) n k;simp only [St.us,St.ur,St.n,xa];omega
theorem tD{l:JH}(h:∀s∈l,dL jy s):(St.cg l).length<=200*St.ns l/\(St.eX l).length<=200*St.ns l:=by
 induction l with
 |nil=>exact⟨xL _,xL _⟩
 |cons a l ih=>
  have h1:=CG (h a xn);have h2:=ih fun s hs=>h s (xo _ hs)
  simp only [St.cg,St.eX,St.ns,xa];omega
def Nd.q(n:Nd):Di:=[.int .i64 n.k,.int .i64 n.a,.int .i64 n.b]
abbrev l7(l:IU):Prop:=l.Pairwise fun x y=>aA x y=true
theorem Xn{x y:Nd}(h:aA x y=false)(hn:x≠y):aA y x=true:=by
 obtain⟨a,b,c⟩:=x;obtain⟨d,e,f⟩:=y;have hn: ¬(a=d/\b=e/\c=f):=fun⟨h1,h2,h3⟩=>hn (by rw[h1,h2,h3])
 have h:=of_decide_eq_false h;refine u_ ?_;simp only at h⊢;omega
theorem JN{x y z:Nd}(h:aA x y=true)(k:aA y z=true):aA x z=true:=by
 have h:=of_decide_eq_true h;have k:=of_decide_eq_true k;refine u_ ?_;omega
section
variable{X:Bv}
end
section
variable{X:Bv}{ar:Dw}{x:Cx}
def Bd.us(ar:Dw)(x:Cx)(b:Bd)(uz:List Us):Bd:=b.jR (uz.flatMap (p7 ar x b.h))
theorem Jz(b:Bd)(u v:List Us):(b.us ar x u).us ar x v=b.us ar x (u++v):=by
 unfold Bd.us;rw[OO,Nz,List.flatMap_append]
theorem Dv{b:Bd}(h:b.x x)(uz:List Us):(b.us ar x uz).x x:=h.jR _
theorem Pb(hx:eu ar x):aF .ld [.ptr (qO x.f x.src x.ids x.rows) 37]=some (.ptr [.sl x.rows] 0):=by
 have e:(qO x.f x.src x.ids x.rows)[37]? =some (.ptr [.sl x.rows] 0):=by
  show((x.f.s++[.str x.src])++(x.ids++[.ptr [.sl x.rows] 0]))[37]? =_;rw[xq (by exact Nat.le_add_left 5 32),xq (by rw[hx.id];exact xk _),hx.id];rfl
 show((qO x.f x.src x.ids x.rows)[37]?).bind _=_;rw[e];rfl
theorem P9(hx:eu ar x){i:Nat}{al:Es}(aR:ar[i]? =some al):∃us fs:Ca,x.rows[i]? =some [.sl (strs (aP 104 al.length)),.sl us,.sl fs]/\x.rows.length=ar.length:=by
 obtain⟨us,fs,h⟩:=hx.p.2 i al aR;exact⟨us,fs,h,hx.p.1⟩
theorem NL{n:Nat}(hn:n<=3):aF (.app 1 16) [.sl [],.sl (strs (aP 104 n))]=some (.sl (strs (aP 104 n))):=
 yg (rows:=[]) (fun row hr=>by obtain⟨s,_,rfl⟩:=xJ.1 hr;exact⟨rfl,rfl⟩) (by simp[strs,aP];omega) (by simp[strs,aP];omega)
theorem Pk{c:Nat}{n:Nat}(hn:0<n):aF (.AV false) [.sl (strs (aP c n))]=some (.bool false):=by
 obtain⟨m,rfl⟩:∃m,n=m+1:=⟨n - 1,MK⟩;rw[aP,List.range_succ_eq_map];rfl
theorem PV(b:Bd)(u:Us):b.us ar x [u]=b.jR (p7 ar x b.h u):=by
 unfold Bd.us;rw[List.flatMap_cons,List.flatMap_nil,xj]
theorem bu5{v w:Nat}{ok:Bool}(h:[jD (w+0),.bool true]=[jD v,.bool ok]):w=v:=by
 have h2:=(D.int.inj (List.cons.inj h).1).2;omega
theorem Df(hx:eu ar x){i j:Nat}{al:Es}(aR:ar[i]? =some al)(hj:j<al.length):hN ar i (nm 104 j)=⟨5,(i:Nat),(j:Nat)⟩:=by
 have h3:=hx.f.ji al (xu aR);unfold hN gK;rw[aR];show(⟨5,_,(((cq (aP 104 al.length) (nm 104 j)).getD 0:Nat):Int)⟩:Nd)=_;rw[Pf h3.2.1 hj];rfl
theorem bf6(hx:eu ar x)(hc:Hp x){b:Bd}(hb:b.x x){k:Nat}{n h:aq}{es:List Fl.Ex}{th el:JH}(hk:Dr k n h es th el)(hr:Il ar x (.mk k n h es th el)){sl:Ca}{ln j:Nat}{Q:Di->Prop}
 (K:Rn F X 128 2 ([.sl sl,jD ln,jD j,.sl (Ex.ss es),jD es.length,jD 0]++(b.us ar x (cZ (.mk k n h es th el) n k)).d++[bD k,.str n,.str h,.sl (St.ss th),.sl (St.ss el)]) Q):
 Wp F X 128 aN0 ([.sl sl,jD ln,jD j]++b.d++[.ptr [bD k,.str n,.str h,.sl (Ex.ss es),.sl (St.ss th),.sl (St.ss el)] 0,bD k,.str n,.str h,.sl (Ex.ss es),.sl (St.ss th),.sl (St.ss el)]) Q:=by
 have hv:=XV (X:=X) hc hb n;have eW:=hk.k1;have fO:=hk.uw;obtain⟨r1,r2,r3⟩:=hr;have next:∀{v:Nat} {ok:Bool},n6 0 (cq x.vn n)=[jD v,.bool ok]->Wp F X 128 (.br (.bin .eql 0) [cd 11,.int .u8 1] aW2 aN1) (([.sl sl,jD ln,jD j]++b.d++[.ptr [bD k,.str n,.str h,.sl (Ex.ss es),.sl (St.ss th),.sl (St.ss el)] 0,bD k,.str n,.str h,.sl (Ex.ss es),.sl (St.ss th),.sl (St.ss el)])++([.int .u8 1,jD x.i]++[jD v,.bool ok]++b.d)) Q:=by
  intro v ok hp;have hw:k=1\/k=2\/k=3\/k=9->wN x n=⟨1,(x.i:Nat),(v:Nat)⟩/\rN x n=[⟨1,(x.i:Nat),(v:Nat)⟩]:=fun hk=>by
   obtain⟨w,hw⟩:=r1 hk;rw[hw] at hp;have:w=v:=bu5 hp;subst this;unfold wN rN;rw[hw];exact⟨rfl,rfl⟩
  have rw2:k=2\/k=3->b.us ar x [.rd n,.wr n]=(b.iU (⟨1,(x.i:Nat),(v:Nat)⟩,b.h)).iU (b.h,⟨1,(x.i:Nat),(v:Nat)⟩):=fun hk=>by
   have hw:=hw MK;unfold Bd.us;rw[List.flatMap_cons,List.flatMap_cons,List.flatMap_nil,xj];simp only [p7,hw.1,hw.2];rfl
  have two:k=2\/k=3->Wp F X 128 aW1 (([.sl sl,jD ln,jD j]++b.d++[.ptr [bD k,.str n,.str h,.sl (Ex.ss es),.sl (St.ss th),.sl (St.ss el)] 0,bD k,.str n,.str h,.sl (Ex.ss es),.sl (St.ss th),.sl (St.ss el)])++([.int .u8 1,jD x.i]++[jD v,.bool ok]++b.d)) Q:=fun hk=>by
   have K:Rn F X 128 2 ([.sl sl,jD ln,jD j,.sl (Ex.ss es),jD es.length,jD 0]++(b.us ar x [.rd n,.wr n]).d++[bD k,.str n,.str h,.sl (St.ss th),.sl (St.ss el)]) Q:=by
    rcases hk with rfl|rfl<;>exact K
   rw[rw2 hk] at K;dsimp only [c_,n_];refine wl Y (Fj (b:=b) ⟨1,(x.i:Nat),(v:Nat)⟩) rfl ?_;dsimp only [c_,n_];refine wl Y (ID (b:=b.iU (⟨1,(x.i:Nat),(v:Nat)⟩,b.h)) ⟨1,(x.i:Nat),(v:Nat)⟩) rfl ?_;dsimp only [c_,n_];exact wo Y (au (gf _))<|wj K
  dsimp only [c_,n_] at two⊢;refine d_ (ds:=[bD k,bD 1]) rfl ay (fun e=> ?_) (fun e1=> ?_)
  ·obtain rfl:k=1:=MK
   have hw:=(hw (.inl Y)).1;refine wl Y (ID (b:=b) ⟨1,(x.i:Nat),(v:Nat)⟩) rfl ?_;dsimp only [c_,n_];refine wo Y (au (gf _))<|b_ Y ?_;have:b.us ar x [.wr n]=b.iU (b.h,⟨1,(x.i:Nat),(v:Nat)⟩):=by rw[<-hw];rfl
   rw[show cZ _ n 1=[.wr n] from Y,this] at K;exact K
  refine d_ (ds:=[bD k,bD 2]) rfl ay (fun e=>two MK) (fun e2=> ?_);refine d_ (ds:=[bD k,bD 3]) rfl ay (fun e=>two MK) (fun e3=> ?_);clear two;refine d_ (ds:=[bD k,bD 9]) rfl ay (fun e=> ?_) (fun e9=> ?_)
  ·obtain rfl:k=9:=MK
   have hw:=hw MK;have:b.us ar x [.rd n,.wr n,.dk]=((b.iU (⟨1,(x.i:Nat),(v:Nat)⟩,b.h)).iU (b.h,⟨1,(x.i:Nat),(v:Nat)⟩)).jR [(⟨2,(x.i:Nat),0⟩,b.h),(b.h,⟨2,(x.i:Nat),0⟩)]:=by
    unfold Bd.us;rw[List.flatMap_cons,List.flatMap_cons,List.flatMap_cons,List.flatMap_nil,xj];simp only [p7,hw.1,hw.2];rfl
   rw[show cZ _ n 9=[.rd n,.wr n,.dk] from Y,this] at K;refine wl Y (Fj (b:=b) ⟨1,(x.i:Nat),(v:Nat)⟩) rfl ?_;dsimp only [c_,n_];refine wl Y (ID (b:=b.iU (⟨1,(x.i:Nat),(v:Nat)⟩,b.h)) ⟨1,(x.i:Nat),(v:Nat)⟩) rfl ?_;dsimp only [c_,n_];have TE:b.c=(x.i:Nat):=by obtain⟨_,_,_,rfl⟩:=hb;rfl
   have hd:=Wx (X:=X) (b:=(b.iU (⟨1,(x.i:Nat),(v:Nat)⟩,b.h)).iU (b.h,⟨1,(x.i:Nat),(v:Nat)⟩));rw[show((b.iU (⟨1,(x.i:Nat),(v:Nat)⟩,b.h)).iU (b.h,⟨1,(x.i:Nat),(v:Nat)⟩)).c=(x.i:Nat) from TE] at hd;refine wl Y hd rfl ?_;dsimp only [c_,n_];exact wo Y (au (gf _))<|wj K
  refine d_ (ds:=[bD k,bD 8]) rfl ay (fun e=> ?_) (fun e8=> ?_)
  ·obtain rfl:k=8:=MK
   have TE:b.c=(x.i:Nat):=by obtain⟨_,_,_,rfl⟩:=hb;rfl
   have hd:=Wx (X:=X) (b:=b);rw[TE] at hd;rw[show cZ _ n 8=[.dk] from Y,PV] at K;refine wl Y hd rfl ?_;dsimp only [c_,n_];exact wo Y (au (gf _))<|wj K
  refine d_ (ds:=[bD k,bD 6]) rfl ay (fun e=> ?_) (fun e6=> ?_)
  ·obtain rfl:k=6:=MK
   obtain⟨i,al,q,aR,rfl,hq,rfl⟩:=r2 rfl;have h3:=hx.f.ji al (xu aR);have hi:=(xe.1 aR).1;have hn:=hx.f.n;obtain⟨us,fs,eS,ow⟩:=P9 hx aR;have Ic:=Pb hx;have sZ:cN x [(97+i).toUInt8]=i:=by unfold cN;rw[IQ hx.f hi];rfl
   rw[show cZ (.mk 6 _ _ es th el) _ 6=[.sn (.mk 6 [(97+i).toUInt8] (nm 104 q) es th el)] from Y,PV] at K;have ao:p7 ar x b.h (.sn (.mk 6 [(97+i).toUInt8] (nm 104 q) es th el))=sL b.h ⟨6,(x.i:Nat),(i:Nat)⟩ ⟨5,(i:Nat),(q:Nat)⟩:=by
    show sL b.h ⟨6,_,(cN x [(97+i).toUInt8]:Nat)⟩ (hN ar (cN x [(97+i).toUInt8]) (nm 104 q))=_;rw[sZ,Df hx aR hq]
   rw[ao] at K;have TC:Rn F X 118 0 [jD x.f.comps.length,.ptr [ny x.f x.src x.ids x.rows] 0,.ptr [.str [(97+i).toUInt8]] 0] (·=[jD i,.bool true]):=by
    refine wr Y ?_;have:=Yq (X:=X) (src:=x.src) (ids:=x.ids) (rows:=x.rows) hc.nc [(97+i).toUInt8] x.f.comps [] rfl;rw[IQ hx.f hi] at this;exact b_ Y this
   obtain⟨o,l,E,rfl⟩:=hb;refine wg 4 Y<|e_ (d:= .sl (x.f.comps.map Cm.s)) rfl rfl rfl<|wo Y (au (xm _))<|wg 1 Y<|e_ (d:= .ptr [ny x.f x.src x.ids x.rows] 0) rfl rfl rfl<|e_ (d:= .ptr [.str [(97+i).toUInt8]] 0) rfl rfl rfl ?_;dsimp only [c_,n_];refine wL Y TC rfl ?_;dsimp only [c_,n_];refine wg 2 Y<|e_ (d:= .ptr (qO x.f x.src x.ids x.rows) 37) rfl rfl rfl<|e_ (d:= .ptr [.sl x.rows] 0) rfl Ic rfl ?_;dsimp only [c_,n_];refine wg 1 Y<|Wp.c8 (ds:=[jD i,jD 0]) rfl af MK<|wg 2 Y<|e_ (d:= .sl x.rows) rfl rfl rfl<|wo Y (au ow) ?_;dsimp only [c_,n_];refine Wp.c8 (ds:=[jD i,jD ar.length]) rfl eP MK<|wg 2 Y<|e_ (d:= .sl x.rows) rfl rfl rfl<|wo Y (ax eS rfl)<|wg 1 Y ?_;dsimp only [c_,n_];refine e_ (d:= .sl (strs (aP 104 al.length))) rfl rfl rfl<|Wp.qQ Y (Pk MK)<|e_ (d:= .sl []) rfl rfl rfl<|wo Y (NL h3.2.1)<|wg 1 Y ?_;dsimp only [c_,n_];refine wL Y (Cq h3.2.1 hq) rfl<|wg 1 Y ?_;dsimp only [c_,n_];refine wL Y (UY (b:=bx x o l E) ⟨6,(x.i:Nat),(i:Nat)⟩ ⟨5,(i:Nat),(q:Nat)⟩) rfl ?_;dsimp only [c_,n_];exact wo Y (au (gf _))<|wj K
  refine d_ (ds:=[bD k,bD 7]) rfl ay (fun e=> ?_) (fun e7=> ?_)
  ·obtain rfl:k=7:=MK
   obtain⟨al,q,aR,hq,rfl⟩:=r3 rfl;have h3:=hx.f.ji al (xu aR);have hi:=(xe.1 aR).1;obtain⟨us,fs,eS,ow⟩:=P9 hx aR;have Ic:=Pb hx;rw[show cZ (.mk 7 _ _ es th el) _ 7=[.tm (.mk 7 n (nm 104 q) es th el)] from Y,PV] at K;have ao:p7 ar x b.h (.tm (.mk 7 n (nm 104 q) es th el))=sL b.h ⟨3,(x.i:Nat),0⟩ ⟨5,(x.i:Nat),(q:Nat)⟩:=by
    show sL b.h ⟨3,_,0⟩ (hN ar x.i (nm 104 q))=_;rw[Df hx aR hq]
   rw[ao] at K;obtain⟨o,l,E,rfl⟩:=hb;refine wg 2 Y<|e_ (d:= .ptr (qO x.f x.src x.ids x.rows) 37) rfl rfl rfl<|e_ (d:= .ptr [.sl x.rows] 0) rfl Ic rfl ?_;dsimp only [c_,n_];refine wg 1 Y<|Wp.c8 (ds:=[jD x.i,jD 0]) rfl af MK<|wg 2 Y<|e_ (d:= .sl x.rows) rfl rfl rfl<|wo Y (au ow) ?_;dsimp only [c_,n_];refine Wp.c8 (ds:=[jD x.i,jD ar.length]) rfl eP MK<|wg 2 Y<|e_ (d:= .sl x.rows) rfl rfl rfl<|wo Y (ax eS rfl)<|wg 1 Y ?_;dsimp only [c_,n_];refine e_ (d:= .sl (strs (aP 104 al.length))) rfl rfl rfl<|Wp.qQ Y (Pk MK)<|e_ (d:= .sl []) rfl rfl rfl<|wo Y (NL h3.2.1)<|wg 1 Y ?_;dsimp only [c_,n_];refine wL Y (Cq h3.2.1 hq) rfl<|wg 1 Y ?_;dsimp only [c_,n_];refine wL Y (UY (b:=bx x o l E) ⟨3,(x.i:Nat),0⟩ ⟨5,(x.i:Nat),(q:Nat)⟩) rfl ?_;dsimp only [c_,n_];exact wo Y (au (gf _))<|wj K
  have hk:k=4\/k=5\/k=10:=MK
  have:cZ (.mk k n h es th el) n k=[]:=by rcases hk with rfl|rfl|rfl<;>rfl
  rw[this] at K;exact wo Y (au (gf _))<|wj K
 cases hp:cq x.vn n with
 |none=>
  rw[hp] at hv;refine wL Y hv rfl ?_;exact next (v:=0) (ok:=false) (by rw[hp];rfl)
 |some v=>
  rw[hp] at hv;refine wL Y hv rfl ?_;exact next (v:=v) (ok:=true) (by rw[hp];rfl)
theorem az8(hx:eu ar x)(hc:Hp x){l:JH}(hl:l.length<=12)(h:∀s∈l,dL (fun s=>jy s/\Il ar x s) s):∀{b:Bd},b.x x->Rn F X 128 0 (b.d++[.sl (St.ss l)]) (·=(b.us ar x (St.cg l)).d):=by
 revert hl
 refine dL.eY (P:=fun l=>l.length<=12->∀{b:Bd},b.x x->Rn F X 128 0 (b.d++[.sl (St.ss l)]) (·=(b.us ar x (St.cg l)).d)) ?_ h;clear h l;intro l h hl b hb;have loop:∀(aa V:JH),l=V++aa->∀{b:Bd},b.x x->Rn F X 128 1 ([.sl (St.ss l),jD l.length,jD V.length]++b.d) (·=(b.us ar x (St.cg aa)).d):=by
  intro aa
  induction aa with
  |nil=>
   intro V hp b hb;rw[xj] at hp;subst hp;exact wr Y<|Wp.c8 (ds:=[jD l.length,jD l.length]) rfl af MK<|wt Y Y
  |cons a aa cS=>
   intro V hp b hb;have aE:l.length=V.length+(aa.length+1):=by rw[hp,xa];rfl
   have ao:(St.ss l)[V.length]? =some (St.s a):=by rw[hp];exact uY _ _ _
   obtain⟨⟨ha,hr⟩,hs⟩:=h a (by rw[hp];simp);have next:=fun{b':Bd} (kQ:b'.x x)=>cS (V++[a]) (by rw[hp,a_];rfl) kQ
   rw[xa] at next;obtain⟨k,n,hd,es,th,el⟩:=a;have ha:Dr k n hd es th el:=ha;obtain⟨dA,cJ⟩:=hs;have fI:es.length<=3:=by have:=ha.ln;omega
   have Aq:∀(bW bh:List Fl.Ex),es=bh++bW->∀{b:Bd},b.x x->Rn F X 128 2 ([.sl (St.ss l),jD l.length,jD V.length,.sl (Ex.ss es),jD es.length,jD bh.length]++b.d++[bD k,.str n,.str hd,.sl (St.ss th),.sl (St.ss el)]) (·=(b.us ar x (Ex.cg bW++(St.cg th++(St.cg el++St.cg aa)))).d):=by
    intro bW
    induction bW with
    |nil=>
     intro bh aO b hb;rw[xj] at aO;subst aO;refine wr Y<|Wp.c8 (ds:=[jD es.length,jD es.length]) rfl af MK<|wg 1 Y ?_;dsimp only [c_,n_];refine wL Y (dA ha.tl hb) rfl<|wg 1 Y ?_;dsimp only [c_,n_];refine wL Y (cJ ha.ll (Dv (ar:=ar) hb (St.cg th))) rfl ?_;dsimp only [c_,n_];refine wo Y oA<|b_ Y ?_;have:=next (Dv (ar:=ar) (Dv (ar:=ar) hb (St.cg th)) (St.cg el));rw[show((b.us ar x (St.cg th)).us ar x (St.cg el)).us ar x (St.cg aa)=b.us ar x (St.cg th++(St.cg el++St.cg aa)) by rw[Jz,Jz]] at this;exact this
    |cons e bW dO=>
     intro bh aO b hb;have r9:es.length=bh.length+(bW.length+1):=by rw[aO,xa];rfl
     have gR:(Ex.ss es)[bh.length]? =some e.s:=by rw[aO];exact qe _ _ _
     have has:e.s.length=4:=by obtain⟨_,_,_,_⟩:=e;rfl
     have he:=(ha.ex e (by rw[aO];simp)).1;have c:=aJ6 (X:=X) hc he hb;have yo:=dO (bh++[e]) (by rw[aO,a_];rfl) (Dv (ar:=ar) hb (Ex.us e));rw[Jz,xa] at yo;have e3:b.jR (wI x b.h e)=b.us ar x (Ex.us e):=by unfold Bd.us;rw[YH ar x b.h he]
     rw[e3] at c;refine wr Y<|Wp.dt (ds:=[jD bh.length,jD es.length]) rfl af MK<|wo Y (ax gR has) ?_;obtain⟨Ee,C5,n',args'⟩:=e;refine o_ (l:=[bD Ee,.str C5,Fl.iD n',.sl (Ex.ss args')]) rfl rfl rfl<|wg 1 Y ?_;dsimp only [c_,n_];refine wL Y c rfl ?_;dsimp only [c_,n_];refine wo Y oA<|b_ Y ?_;rw[show Ex.cg (⟨Ee,C5,n',args'⟩::bW)++(St.cg th++(St.cg el++St.cg aa))=Ex.us ⟨Ee,C5,n',args'⟩++(Ex.cg bW++(St.cg th++(St.cg el++St.cg aa))) from a_ ..];exact yo
   refine wr Y<|Wp.dt (ds:=[jD V.length,jD l.length]) rfl af MK<|wo Y (ax ao Y)<|o_ (l:=[bD k,.str n,.str hd,.sl (Ex.ss es),.sl (St.ss th),.sl (St.ss el)]) rfl rfl rfl<|wg 1 Y ?_;refine bf6 hx hc hb ha hr ?_;have:=Aq es [] rfl (Dv (ar:=ar) hb (cZ (.mk k n hd es th el) n k));rw[Jz] at this;have e4:St.cg (⟨k,n,hd,es,th,el⟩::aa)=cZ (.mk k n hd es th el) n k++(Ex.cg es++(St.cg th++(St.cg el++St.cg aa))):=by
    simp only [St.cg,St.us,a_]
   rw[e4];exact this
 refine wr Y<|wo Y (au (l9 _))<|b_ Y ?_;exact loop l [] rfl hb
end
end Go.Proofs.YthicpeihkkokmaaGreatDoor
