/- What these functions answer. -/
import Derived.Test.YthicpeihkkokmaaGreatDoorP1
import Derived.Test.YthicpeihkkokmaaGreatDoorA0
import Derived.KernelRfl
import Derived.Test.YthicpeihkkokmaaGreatDoorP7
import Derived.Test.YthicpeihkkokmaaGreatDoorP2
set_option linter.unusedVariables false
set_option linter.unusedSimpArgs false
set_option maxHeartbeats 4000000
set_option maxRecDepth 100000
namespace Go.Proofs.YthicpeihkkokmaaGreatDoor
open Go.Ex Go.RowKit
noncomputable section
def xP(k:xO)(l:a0d):Prop:=∀d∈l,mw k d
theorem AM{k:xO}{d:D}(h:mw k d):d.cell=true:=by obtain⟨n,rfl,_⟩:=h;rfl
def dB(ks:List (Option xO))(env:a0d):Prop:=ks.length=env.length/\∀(i:Nat) (k:xO),ks[i]? =some (some k)->∃d,env[i]? =some d/\mw k d
theorem dB.app{a b:List (Option xO)}{x y:a0d}(h:dB a x)(g:dB b y):dB (a++b) (x++y):=by
 refine⟨by simp[h.1,g.1],fun i k hi=> ?_⟩;by_cases hl:i<a.length
 ·rw[xw hl] at hi;obtain⟨d,h1,h2⟩:=h.2 i k hi;exact⟨d,by rw[xw (by rw[<-h.1];exact hl)];exact h1,h2⟩
 ·rw[xq a0B] at hi;obtain⟨d,h1,h2⟩:=g.2 _ k hi;exact⟨d,by rw[xq (by rw[<-h.1];omega),<-h.1];exact h1,h2⟩
theorem dB.oV{k:xO}{l:a0d}{n:Nat}(hn:l.length=n)(h:xP k l):dB (List.replicate n (some k)) l:=by
 refine⟨by simp[hn],fun i k' hi=> ?_⟩;have hl:=(xe.1 hi).1;rw[List.length_replicate] at hl;rw[List.getElem?_replicate,i_ hl] at hi;cases hi;have aW:i<l.length:=a0B
 exact⟨l[i],xc aW,h _ (List.getElem_mem aW)⟩
theorem dB.one{k:xO}{d:D}(h:mw k d):dB [some k] [d]:=dB.oV (n:=1) rfl (fun x hx=>by rw[xy] at hx;subst hx;exact h)
theorem dB.oX{d:D}:dB [none] [d]:=⟨rfl,fun i k hi=>by cases i with|zero=>simp at hi|succ i=>simp at hi⟩
def l4(l:List (Option xO)):Nat->T (Option xO)->T (Option xO):=List.rec (motive:=fun _=>Nat->T (Option xO)->T (Option xO)) (fun _ t=>t) (fun x _ ih i t=>ih (Nat.succ i) (t.set i x)) l
theorem O0(c:Nat)(k:xO):∀(l:List (Option xO)) (i:Nat) (t:T (Option xO)),T.get none (l4 l i t) c=some k->(∃j,l[j]? =some (some k)/\c=i+j)\/T.get none t c=some k
 |[],i,t,h=> .inr h
 |x::l,i,t,h=>by
  have h':T.get none (l4 l (i+1) (t.set i x)) c=some k:=h;rcases O0 c k l (i+1) (t.set i x) h' with⟨j,h1,h2⟩|h1
  ·exact .inl ⟨j+1,by simpa using h1,a0B⟩
  ·by_cases hc:i=c
   ·subst hc;rcases T.ul none t i x with e|⟨e,_⟩
    ·rw[e] at h1;subst h1;exact .inl ⟨0,rfl,rfl⟩
    ·rw[e] at h1;cases h1
   ·rw[T.um none t i c x hc] at h1;exact .inr h1
def Fs(l:List (Option xO)):T (Option xO):=l4 l 0 (T.full none 12)
theorem QB{ks:List (Option xO)}{env:a0d}(h:dB ks env):∀(c:Nat) (k:xO),T.get none (Fs ks) c=some k->∃d,env[c]? =some d/\mw k d:=fun c k hc=>by
 rcases O0 c k ks 0 _ hc with⟨j,h1,h2⟩|h1
 ·rw[Nat.zero_add] at h2;subst h2;exact h.2 _ k h1
 ·rcases T.Da (none:Option xO) none 12 c with e|e<;>(rw[e] at h1;cases h1)
def rO(K:T (Option xO))(l:a0e):Option (List xO):=List.rec (motive:=fun _=>Option (List xO)) (some []) (fun v _ ih=>match wY K v,ih with|some k,some r=>some (k::r)|_,_=>none) l
def iE:List xO->List D->Prop|[],[]=>True|k::ks,d::ds=>mw k d/\iE ks ds|_,_=>False
theorem AG{K:T (Option xO)}{env:a0d}(he:∀c k,T.get none K c=some k->∃d,env[c]? =some d/\mw k d):∀(l:a0e) (ks:a0u),rO K l=some ks->∃ds,aI (aZ (lk env)) l=some ds/\iE ks ds
 |[],ks,h=>by cases h;exact⟨[],rfl,trivial⟩
 |v::l,ks,h=>by
  have h':(match wY K v,rO K l with|some k,some r=>some (k::r)|_,_=>none)=some ks:=h;split at h'
  ·rename_i k r hk hr;cases h';obtain⟨ds,h1,h2⟩:=AG he l r hr;have hv:∃n:Nat,aZ (lk env) v=some (.int k (.ofNat n))/\n<mk k:=by
    unfold wY at hk;split at hk
    ·rename_i c;obtain⟨d,h1,n,rfl,h3⟩:=he c k hk;refine⟨n,?_,h3⟩;show(env[c]?).bind _=_;rw[h1];rfl
    ·rename_i k0 n;rcases ax hk with⟨h1,h2⟩|⟨_,h2⟩<;>cases h2
     exact⟨n,rfl,xh h1⟩
    ·cases hk
   obtain⟨n,e1,e2⟩:=hv;exact⟨_::ds,by simp only [aI,e1,h1],⟨n,rfl,e2⟩,h2⟩
  ·cases h'
theorem iE.app:∀{a b:a0u} {l:a0d},iE (a++b) l->∃x y,l=x++y/\iE a x/\iE b y
 |[],b,l,h=>⟨[],l,rfl,trivial,h⟩
 |k::a,b,[],h=>h.elim
 |k::a,b,d::l,h=>by
  obtain⟨x,y,rfl,h1,h2⟩:=iE.app (a:=a) h.2;exact⟨d::x,y,rfl,⟨h.1,h1⟩,h2⟩
theorem iE.oV{k:xO}:∀{n:Nat} {l:a0d},iE (List.replicate n k) l->l.length=n/\xP k l
 |0,[],_=>⟨Y,fun d h=>by cases h⟩
 |0,_::_,h=>h.elim
 |n+1,[],h=>h.elim
 |n+1,d::l,h=>by
  obtain⟨h1,h2⟩:=iE.oV (n:=n) h.2;exact⟨by simp[h1],fun x hx=>by
   rcases xG.1 hx with rfl|hx
   ·exact h.1
   ·exact h2 x hx⟩
theorem dG{l r:a0d}{i:Nat}{d:D}(h:l[i]? =some d):(l++r)[i]? =some d:=by
 rw[xw (xe.1 h).1];exact h
theorem kV{l:a0d}{n:Nat}{d:D}(h:l.length=n):(l++[d])[n]? =some d:=by
 rw[xq a0B,h,Nat.sub_self];rfl
theorem d1{env:a0d}{i:Nat}{d:D}(h:env[i]? =some d)(hc:d.cell=true):aZ (lk env) (cd i)=some d:=by
 show(env[i]?).bind _=_;rw[h,xB,i_ hc]
theorem d2{env:a0d}{i:Nat}{d:D}(h:env[i]? =some d)(hc:d.cell=true):bR (lk env) (cd i)=some d:=d1 h hc
def C6:Nat->Nat->List xM|_,0=>[]|a,n+1=>cd a::C6 (a+1) n
theorem YV{env:a0d}:∀(mj:a0d) (a:Nat),(∀i d,mj[i]? =some d->env[a+i]? =some d/\d.cell=true)->aI (bR (lk env)) (C6 a mj.length)=some mj
 |[],a,_=>rfl
 |d::mj,a,h=>by
  have h0:=h 0 d rfl;have h1:=YV mj (a+1) (fun i x hx=>by
   have:=h (i+1) x (by simpa using hx);rw[show a+1+i=a+(i+1) by omega];exact this)
  show(match bR (lk env) (cd a),aI (bR (lk env)) (C6 (a+1) mj.length) with|some x,some r=>some (x::r)|_,_=>none)=_;rw[h1,d2 h0.1 h0.2]
theorem AN{env:a0d}:∀(mj:a0d) (a:Nat),(∀i d,mj[i]? =some d->env[a+i]? =some d/\d.cell=true)->aI (aZ (lk env)) (C6 a mj.length)=some mj
 |[],a,_=>rfl
 |d::mj,a,h=>by
  have h0:=h 0 d rfl;have h1:=AN mj (a+1) (fun i x hx=>by
   have:=h (i+1) x (by simpa using hx);rw[show a+1+i=a+(i+1) by omega];exact this)
  show(match aZ (lk env) (cd a),aI (aZ (lk env)) (C6 (a+1) mj.length) with|some x,some r=>some (x::r)|_,_=>none)=_;rw[h1,d1 h0.1 h0.2]
theorem eV{g:xM->a0w}{v:xM}{l:a0e}{d:D}{ds:a0d}(h:g v=some d)(hl:aI g l=some ds):aI g (v::l)=some (d::ds):=by
 simp only [aI,h,hl]
def kL:a0u:=List.replicate 8 .u32++(List.replicate 64 .u8++[.u64])
structure HS (ws bs:a0d) (gH:D):Prop where
 w:ws.length=8
 b:bs.length=64
 aw:xP .u32 ws
 ab:xP .u8 bs
 t:mw .u64 gH
theorem HS.of{l:a0d}(h:iE kL l):∃ws bs gH,l=ws++(bs++[gH])/\HS ws bs gH:=by
 obtain⟨ws,r,rfl,h1,h2⟩:=iE.app h;obtain⟨bs,t,rfl,h3,h4⟩:=iE.app h2;obtain⟨e1,e2⟩:=h1.oV;obtain⟨e3,e4⟩:=h3.oV
 match t,h4 with
 |[gH],h4=>exact⟨ws,bs,gH,rfl,e1,e3,e2,e4,h4.1⟩
 |[],h4=>exact h4.elim
 |_::_::_,h4=>exact h4.2.elim
def BR(rows:a0b):Prop:=∀row∈rows,∃d,row=[d]/\mw .u8 d
theorem BR.drop{rows:a0b}(h:BR rows)(n:Nat):BR (rows.drop n):=fun row hr=>h row (List.mem_of_mem_drop hr)
theorem BR.all{rows:a0b}(h:BR rows):rows.all (fun r=>r.length==1&&r.all D.cell)=true:=by
 rw[List.all_eq_true];intro row hr;obtain⟨d,rfl,hd⟩:=h row hr;simp[AM hd]
theorem BR.flat:∀{rows:a0b},BR rows->rows.flatten.length=rows.length/\xP .u8 rows.flatten
 |[],_=>⟨Y,fun d h=>by simp at h⟩
 |row::rows,h=>by
  obtain⟨d,rfl,hd⟩:=h row a0C;obtain⟨h1,h2⟩:=BR.flat (rows:=rows) (fun r hr=>h r (by simp[hr]));exact⟨by simp[h1],fun x hx=>by
   rw[List.flatten_cons,xF] at hx;rcases hx with hx|hx
   ·rw[xy] at hx;subst hx;exact hd
   ·exact h2 x hx⟩
theorem bo7{rows:a0b}{eT:a0d}{a:Nat}(h:BR rows)(ho:xP .u8 eT)(hl:eT.length=64)(ha:a<=64):
 ∃dI,aL (.F4 64) (jD a:: .sl rows::eT)=some (.agg (jD (min rows.length (64 - a))::dI))/\dI.length=64/\xP .u8 dI:=by
 refine⟨_,show(if rows.all (fun r=>r.length==1&&r.all D.cell)=true/\a<=64/\eT.length=64 then some (D.agg (.int .i64 (min rows.length (64 - a):Nat)::(eT.take a++(rows.take (64 - a)).flatten++eT.drop (a+min rows.length (64 - a))))) else none)=_ by rw[i_ ⟨h.all,ha,hl⟩],?_,?_⟩
 ·have hb:BR (rows.take (64 - a)):=fun r hr=>h r (List.mem_of_mem_take hr)
  rw[xa,xa,hb.flat.1,xz,xz,List.length_drop];omega
 ·have hb:BR (rows.take (64 - a)):=fun r hr=>h r (List.mem_of_mem_take hr)
  intro d hd;rw[xF,xF] at hd;rcases hd with(hd|hd)|hd
  ·exact ho d (List.mem_of_mem_take hd)
  ·exact hb.flat.2 d hd
  ·exact ho d (List.mem_of_mem_drop hd)
theorem Dh:∀(l:a0d) (n:Nat),l.length=n->(∀d∈l,d.cell=true)->jx (List.replicate n no) l=true
 |[],n,h,_=>by subst h;rfl
 |d::l,n,h,hc=>by
  subst h;show(d.cell&&jx (List.replicate l.length no) l)=true;rw[hc d a0C,Dh l l.length rfl (fun x hx=>hc x (by simp[hx]))];rfl
abbrev NP:List (Option xO):=[none]++(List.replicate 8 (some .u32)++(List.replicate 64 (some .u8)++([some .u64]++([none]++([none]++([none]++([some .i64]++(List.replicate 64 (some .u8)++[none]))))))))
abbrev L1:tN:=[(.mv .u64,[cd 77]),(.bin .add 0,[cd 73,cd 143])]
def Ff(t:DT):a0e:=match t with| .jump _ _ _ _ us=>us.tail|_=>[]
def Lz(x:Option (List xO)):Bool:=match x with|some l=>decide (l=kL)|none=>false
theorem Xz{x:Option (List xO)}(h:Lz x=true):x=some kL:=by
 unfold Lz at h;split at h
 ·rw[of_decide_eq_true h]
 ·cases h
def as5:Bool:=match uI L1 (Fs NP) 143 with
 |some (K1,n)=>Nat.beq n 145&& (Lz (rO K1 (Ff JO))&& (match uI (H0 (Jf C0)) K1 146 with|some (K2,_)=>Lz (rO K2 (Ff KG))|none=>false))
 |none=>false
theorem aH4:as5=true:=by kernel_rfl
theorem iE.Qx{k:xO}:∀(n:Nat) (l:a0d) {ks:a0u} {r:a0d},l.length=n->xP k l->iE ks r->iE (List.replicate n k++ks) (l++r)
 |0,l,ks,r,hl,_,h=>by rw[xA hl];exact h
 |n+1,[],ks,r,hl,_,h=>by simp at hl
 |n+1,d::l,ks,r,hl,ha,h=>⟨ha d a0C,iE.Qx n l (by simpa using hl) (fun x hx=>ha x (by simp[hx])) h⟩
theorem HS.us{ws bs:a0d}{gH:D}(h:HS ws bs gH):iE kL (ws++(bs++[gH])):=iE.Qx 8 ws h.w h.aw (iE.Qx 64 bs h.b h.ab ⟨h.t,trivial⟩)
theorem HS.cells{ws bs:a0d}{gH:D}(h:HS ws bs gH):∀d∈ws++(bs++[gH]),d.cell=true:=fun d hd=>by
 rw[xF,xF,xy] at hd;rcases hd with hd|hd|rfl
 ·exact AM (h.aw d hd)
 ·exact AM (h.ab d hd)
 ·exact AM h.t
theorem HS.len{ws bs:a0d}{gH:D}(h:HS ws bs gH):(ws++(bs++[gH])).length=73:=by
 rw[xa,xa,h.w,h.b];rfl
theorem aH5:∃K1 K2 n2,uI L1 (Fs NP) 143=some (K1,145)/\rO K1 (Ff JO)=some kL/\uI (H0 (Jf C0)) K1 146=some (K2,n2)/\rO K2 (Ff KG)=some kL:=by
 have h:=aH4;unfold as5 at h;split at h
 ·rename_i K1 n h1;simp only [xf] at h;obtain⟨e1,e2,e3⟩:=h;have e1:=xb e1;subst e1;split at e3
  ·rename_i K2 n2 h2;exact⟨K1,K2,n2,h1,Xz e2,h2,Xz e3⟩
  ·cases e3
 ·cases h
section
variable{X:a0a}
theorem be5:∀(n:Nat) (rows:a0b) (ws bs:a0d) (gH:D),rows.length<=n->n<=1000000000000->BR rows->HS ws bs gH->Rn F X 117 1 (.sl rows::(ws++(bs++[gH]))) (fun o=>iE kL o):=by
 intro n;obtain⟨K1,K2,n2,Jb,hU1,Ja,hU2⟩:=aH5
 induction n with
 |zero=>
  intro rows ws bs gH hn _ hb hs;obtain rfl:rows=[]:=xA a0B;have hl:=hs.len;have hc:=hs.cells;have ko:=hs.us;generalize ws++(bs++[gH])=st at*;refine wR Y (by show st.length+1=74;omega)<|e_ (ds:=[.sl []]) rfl bf rfl ?_;have FU:((D.sl []::st)++[jD 0])[74]? =some (jD 0):=kV (by simp[hl]);refine Wp.rG (eV (d2 FU rfl) rfl) rfl ?_;have hd:=AN (env:=(D.sl []::st)++[jD 0]) st 1 (fun i d hi=>⟨dG (by rw[Nat.add_comm];simpa using hi),hc d (xu hi)⟩);rw[hl] at hd;exact Wp.ret hd ko
 |succ n ih=>
  intro rows ws bs gH hn gf hb hs;have hl:=hs.len;have hc:=hs.cells;have ko:=hs.us;obtain⟨hw,Ap,haw,iO,T0,rfl,hT⟩:=hs;have FV:(D.sl rows::(ws++(bs++[D.int .u64 (.ofNat T0)])))[73]? =some (D.int .u64 (.ofNat T0)):=by
   rw[List.getElem?_cons_succ,xq a0B,xq a0B,hw,Ap];rfl
  have gbs:∀(i:Nat) (d:D),bs[i]? =some d->(D.sl rows::(ws++(bs++[D.int .u64 (.ofNat T0)])))[9+i]? =some d/\d.cell=true:=fun i d hi=>by
   refine⟨?_,AM (iO d (xu hi))⟩;rw[show 9+i=8+i+1 by omega,List.getElem?_cons_succ,xq a0B,hw,Nat.add_sub_cancel_left];exact dG hi
  have lS:dB ([none]++(List.replicate 8 (some .u32)++(List.replicate 64 (some .u8)++[some .u64]))) (D.sl rows::(ws++(bs++[D.int .u64 (.ofNat T0)]))):=dB.app (x:=[D.sl rows]) dB.oX (dB.app (dB.oV hw haw) (dB.app (dB.oV Ap iO) (dB.one ⟨T0,rfl,hT⟩)));have Au:(D.sl rows::(ws++(bs++[D.int .u64 (.ofNat T0)]))).length=74:=by show _+1=74;omega
  have ak4:=AN (env:=(D.sl rows::(ws++(bs++[D.int .u64 (.ofNat T0)])))++[jD rows.length]) (ws++(bs++[D.int .u64 (.ofNat T0)])) 1 (fun i d hi=>⟨dG (by rw[Nat.add_comm];simpa using hi),hc d (xu hi)⟩);rw[hl] at ak4;refine wR Y Au<|e_ (ds:=[.sl rows]) rfl bf rfl ?_;have g0:(D.sl rows::(ws++(bs++[D.int .u64 (.ofNat T0)])))[0]? =some (D.sl rows):=rfl;generalize cx4:(D.sl rows::(ws++(bs++[D.int .u64 (.ofNat T0)])))=E0 at*;have FU:(E0++[jD rows.length])[74]? =some (jD rows.length):=kV Au;by_cases hr:rows.length=0
  ·exact Wp.dF (eV (d2 FU rfl) rfl) (cg (a:=(rows.length:Int)) (b:=0)) a0B<|Wp.ret ak4 ko
  refine Wp.dO (eV (d2 FU rfl) rfl) (cg (a:=(rows.length:Int)) (b:=0)) a0B<|e_ (eV (d2 (dG FV) rfl) rfl) (mG (a:=T0) (b:=64) .u64 a0B) rfl ?_;have ha:T0%64<64:=Nat.mod_lt _ a0B;generalize hga:T0%64=a at*;have NB:(E0++[jD rows.length]).length=75:=by simp[Au]
  have U8:=kV (d:=D.int .u64 ((a:Nat):Int)) NB;have yf:aL (.mv .i64) [D.int .u64 ((a:Nat):Int)]=some (jD a):=by
   show some (D.int .i64 (IntKind.i64.wrap (a:Int)))=_;rw[IntWalk.i64_in _ a0B]
  refine e_ (eV (d2 U8 rfl) rfl) yf rfl ?_;have NA:(E0++[jD rows.length]++[D.int .u64 ((a:Nat):Int)]).length=76:=by simp[Au]
  have yj:=kV (d:=jD a) NA;have ry:aL .jf [D.int .i64 64,jD a]=some (.bool true):=by
   show some (D.bool (decide (a<64)))=_;rw[u_ ha]
  refine Wp.nV (eV rfl (eV (d2 yj rfl) rfl)) ry ?_;obtain⟨dI,hcp,lR,hnu⟩:=bo7 hb iO Ap (Nat.le_of_lt ha);have Ca:1<=min rows.length (64 - a)/\min rows.length (64 - a)<=rows.length/\min rows.length (64 - a)<=64:=a0B
  generalize hgc:min rows.length (64 - a)=jQ at*;have fR:aI (bR (lk (E0++[jD rows.length]++[D.int .u64 ((a:Nat):Int)]++[jD a]))) (cd 76::cd 0::C6 9 64)=some (jD a:: .sl rows::bs):=by
   have h9:=YV (env:=E0++[jD rows.length]++[D.int .u64 ((a:Nat):Int)]++[jD a]) bs 9 (fun i d hi=>⟨dG (dG (dG (gbs i d hi).1)),(gbs i d hi).2⟩);rw[Ap] at h9;exact eV (d2 yj rfl) (eV (d2 (dG (dG (dG g0))) rfl) h9)
  refine Wp.aV fR hcp (Dh _ 65 (by simp[lR]) (fun d hd=>by
   rcases xG.1 hd with rfl|hd
   ·rfl
   ·exact AM (hnu d hd))) ?_
  have As:(E0++[jD rows.length]++[D.int .u64 ((a:Nat):Int)]++[jD a]).length=77:=by simp[Au]
  have IX:dB ([none]++(List.replicate 8 (some .u32)++(List.replicate 64 (some .u8)++[some .u64]))++[none]++[none]++[none]) (E0++[jD rows.length]++[D.int .u64 ((a:Nat):Int)]++[jD a]):=((lS.app dB.oX).app dB.oX).app dB.oX;have cy4:=dG (r:=[jD a]) (dG (r:=[D.int .u64 ((a:Nat):Int)]) (dG (r:=[jD rows.length]) FV));have g0':=dG (r:=[jD a]) (dG (r:=[D.int .u64 ((a:Nat):Int)]) (dG (r:=[jD rows.length]) g0));generalize cx3:E0++[jD rows.length]++[D.int .u64 ((a:Nat):Int)]++[jD a]=E3 at*;have C1:(E3++(jD jQ::dI))[77]? =some (jD jQ):=by
   rw[xq a0B,As];rfl
  have gd:aL (.qk 1) [.sl rows,jD jQ]=some (.sl (rows.drop jQ)):=Kh a0B (fun row h=>by obtain⟨d,rfl,_⟩:=hb row h;rfl);refine e_ (eV (d2 (dG g0') rfl) (eV (d2 C1 rfl) rfl)) gd rfl ?_;have CU:(E3++(jD jQ::dI)).length=142:=by simp[As,lR]
  have CT:(E3++(jD jQ::dI)++[D.sl (rows.drop jQ)]).length=143:=by simp[As,lR]
  have hk5:dB NP (E3++(jD jQ::dI)++[D.sl (rows.drop jQ)]):=(IX.app (dB.app (x:=[jD jQ]) (dB.one ⟨jQ,rfl,by show jQ<18446744073709551616;omega⟩) (dB.oV lR hnu))).app dB.oX;have bJ4:=kV (d:=D.sl (rows.drop jQ)) CU;have bJ2:=dG (r:=[D.sl (rows.drop jQ)]) (dG (r:=jD jQ::dI) yj);have bJ1:=dG (r:=[D.sl (rows.drop jQ)]) C1;generalize cx2:E3++(jD jQ::dI)++[D.sl (rows.drop jQ)]=E5 at*;show Wp F X 117 (G3 L1 (.op (.bin .add 0) [cd 76,cd 77] (.br (.bin .eql 0) [cd 145,.int .i64 64] (G3 (H0 (Jf C0)) KG) JO))) E5 _;refine AV L1 (Fs NP) K1 143 145 E5 CT (QB hk5) Jb (fun new q1 q2=> ?_);refine e_ (eV (d2 (dG bJ2) rfl) (eV (d2 (dG bJ1) rfl) rfl)) (bm (a:=a) (b:=jQ) a0B) rfl ?_;have bJ3:=kV (d:=jD (a+jQ)) q1;have ad2:=dG (r:=[jD (a+jQ)]) (dG (r:=new) bJ4);have fin:∀(K:T (Option xO)) (us:a0e) (env:a0d),(∀c k,T.get none K c=some k->∃d,env[c]? =some d/\mw k d)->rO K us=some kL->env[142]? =some (D.sl (rows.drop jQ))->∃ds,aI (aZ (lk env)) (cd 142::us)=some ds/\Rn F X 117 1 ds (fun o=>iE kL o):=fun K us env h1 h2 h3=>by
   obtain⟨ds,e1,e2⟩:=AG h1 us kL h2;obtain⟨ws',fJ,bB0,rfl,e3⟩:=HS.of e2;exact⟨_,eV (d1 h3 rfl) e1,ih (rows.drop jQ) ws' fJ bB0 (by rw[List.length_drop];omega) a0B (hb.drop jQ) e3⟩
  have sk:∀c k,T.get none K1 c=some k->∃d,(E5++new++[jD (a+jQ)])[c]? =some d/\mw k d:=fun c k nR=>(q2 c k nR).imp fun d ⟨h1,h2⟩=>⟨dG h1,h2⟩
  refine d_ (eV (d2 bJ3 rfl) rfl) (ay (a:=((a+jQ:Nat):Int)) (b:=64)) (fun _=> ?_) (fun _=> ?_)
  ·refine AV (H0 (Jf C0)) K1 K2 146 n2 _ (by rw[xa,q1];rfl) sk Ja (fun ai2 r1 r2=> ?_);obtain⟨ds,e1,e2⟩:=fin K2 (Ff KG) _ r2 hU2 (dG ad2);exact Wp.jump e1 e2
  ·obtain⟨ds,e1,e2⟩:=fin K1 (Ff JO) _ sk hU1 ad2;exact Wp.jump e1 e2
end
def EJ:Nat->DT->tN|0,_=>[]|n+1,.op k a t=>(k,a)::EJ n t|_,_=>[]
def rY:Nat->DT->DT|0,t=>t|n+1,.op _ _ t=>rY n t|_,t=>t
theorem Ga:∀(n:Nat) (t:DT),G3 (EJ n t) (rY n t)=t
 |0,t=>rfl
 |n+1,.op k a t=>congrArg (DT.op k a) (Ga n t)
 |n+1,.aV .. =>rfl
 |n+1,.br .. =>rfl
 |n+1,.sw .. =>rfl
 |n+1,.note .. =>rfl
 |n+1,.call .. =>rfl
 |n+1,.jump .. =>rfl
 |n+1,.ret .. =>rfl
 |n+1,.pick .. =>rfl
 |n+1,.stop=>rfl
theorem X8{K:T (Option xO)}{env o:a0d}{l:List (Option xO)}{n:Nat}(hn:env.length=n)(he:∀c k,T.get none K c=some k->∃d,env[c]? =some d/\mw k d)(hk:dB l o):∀(c:Nat) (k:xO),T.get none (l4 l n K) c=some k->∃d,(env++o)[c]? =some d/\mw k d:=fun c k hc=>by
 rcases O0 c k l n K hc with⟨j,h1,h2⟩|h1
 ·obtain⟨d,h3,h4⟩:=hk.2 j k h1;refine⟨d,?_,h4⟩;rw[h2,<-hn,xq a0B,Nat.add_sub_cancel_left];exact h3
 ·obtain⟨d,h3,h4⟩:=he c k h1;exact⟨d,dG h3,h4⟩
theorem dB.us:∀{ks:a0u} {l:a0d},iE ks l->dB (ks.map some) l
 |[],[],_=>⟨Y,fun i k h=>by simp at h⟩
 |[],_::_,h=>h.elim
 |_::_,[],h=>h.elim
 |k::ks,d::l,h=>dB.app (a:=[some k]) (x:=[d]) (dB.one h.1) (dB.us h.2)
theorem LX{δ:a0j}:∀{l:a0e} {ds:a0d},aI (aZ δ) l=some ds->aI (bR δ) l=some ds
 |[],ds,h=>h
 |v::l,ds,h=>by
  obtain⟨d,r,rfl,h1,h2⟩:=iu h;exact eV (lD h1) (LX h2)
theorem Dv{g:xM->a0w}:∀{a b:a0e} {x y:a0d},aI g a=some x->aI g b=some y->aI g (a++b)=some (x++y)
 |[],b,x,y,h,h2=>by cases h;exact h2
 |v::a,b,x,y,h,h2=>by
  obtain⟨d,r,rfl,h1,h3⟩:=iu h;exact eV h1 (Dv h3 h2)
theorem Hq:∀(n:Nat) (ds:a0d),ds.length=n->uy 1 n ds=some (ds.map fun d=>[d])
 |0,[],_=>rfl
 |0,_::_,h=>by simp at h
 |n+1,[],h=>by simp at h
 |n+1,d::ds,h=>by
  have:=Hq n ds (by simpa using h);show(if 1<=(d::ds).length then(uy 1 n ds).map fun r=>[d]::r else none)=_;rw[i_ a0C,this];rfl
theorem BR.map{ds:a0d}(h:xP .u8 ds):BR (ds.map fun d=>[d]):=fun row hr=>by
 obtain⟨d,hd,rfl⟩:=xJ.1 hr;exact⟨d,rfl,h d hd⟩
theorem BR.app{a b:a0b}(h:BR a)(g:BR b):BR (a++b):=fun row hr=>by
 rcases xF.1 hr with hr|hr
 ·exact h row hr
 ·exact g row hr
theorem BR.oV{m:Nat}:BR (List.replicate m [D.int .u8 0]):=fun row hr=>by
 rw[(List.mem_replicate.1 hr).2];exact⟨_,rfl,0,rfl,a0I⟩
theorem BR.set{a:a0b}(h:BR a)(i:Nat):BR (a.set i [D.int .u8 128]):=fun row hr=>by
 rcases List.mem_or_eq_of_mem_set hr with hr|rfl
 ·exact h row hr
 ·exact⟨_,rfl,128,rfl,a0I⟩
theorem Yl{a b:a0b}(hb:BR b)(h:a.length+b.length<=1000):aL (.app 1 1) [.sl a,.sl b]=some (.sl (a++b)):=by
 show(if b.all (fun r=>r.length==1&&r.all D.cell) then some b else none).bind (fun q=>if mK (a.length+q.length) 1 then some (D.sl (a++q)) else none)=_;rw[i_ hb.all];show(if mK (a.length+b.length) 1 then _ else _)=_;rw[i_ (by unfold mK;simp;omega)]
def Cw(x:Option (List xO))(l:a0u):Bool:=match x with|some r=>decide (r=l)|none=>false
theorem G4{x:Option (List xO)}{l:a0u}(h:Cw x l=true):x=some l:=by
 unfold Cw at h;split at h
 ·rw[of_decide_eq_true h]
 ·cases h
section
variable{X:a0a}
theorem Qb{rows:a0b}{ws bs:a0d}{gH:D}(hr:rows.length<=1000000000000)(hb:BR rows)(hs:HS ws bs gH):Rn F X 117 0 ((ws++(bs++[gH]))++[.sl rows]) (fun o=>iE kL o):=by
 have h1:=be5 (X:=X) _ rows ws bs gH (xk _) hr hb hs;have hl:=hs.len;have hc:=hs.cells;generalize ws++(bs++[gH])=st at*;refine wR Y (by simp[hl]) ?_;have hd:=AN (env:=st++[.sl rows]) st 0 (fun i d hi=>⟨dG (by rw[Nat.zero_add];exact hi),hc d (xu hi)⟩);rw[hl] at hd;exact b_ (eV (d1 (kV hl) rfl) hd) h1
def a8(t:DT):a0e:=match t with| .note _ (.op _ a _)=>a|_=>[]
def ah0(t:DT):a0e:=match t with| .ret _ _ us=>us|_=>[]
def M0:DT:= .op (.bin .shl 0) [cd 73,.int .u64 3] aW3
def as6:Bool:=match uI (EJ 17 M0) (Fs ([none]++(kL.map some++List.replicate 7 none))) 81 with
 |some (K1,n)=>Nat.beq n 98&& (Cw (rO K1 (a8 (rY 17 M0))) (List.replicate 8 .u8)&& (match uI (EJ 56 PA) (l4 (kL.map some) 100 K1) 173 with
  |some (K2,_)=>Cw (rO K2 (ah0 (rY 56 PA))) (List.replicate 32 .u8)
  |none=>false))
 |none=>false
theorem aH6:as6=true:=by kernel_rfl
theorem br5{env:a0d}{st:a0d}{q:a0b}(bg:iE kL st)(hE:env.length=81)(hk:dB ([none]++(kL.map some++List.replicate 7 none)) env)(hs:∀i d,st[i]? =some d->env[1+i]? =some d)(hq:env[80]? =some (.sl q))(hb:BR q)(hql:q.length<=100):Wp F X 114 M0 env (fun o=>iE (List.replicate 32 .u8) o):=by
 have h:=aH6;unfold as6 at h;split at h;rotate_left
 ·cases h
 rename_i K1 n Jb;simp only [xf] at h;obtain⟨e1,e2,e3⟩:=h;have e1:=xb e1;subst e1;have e2:=G4 e2;split at e3;rotate_left
 ·cases e3
 rename_i K2 n2 Ja;have e3:=G4 e3;obtain⟨ws,bs,gH,rfl,hh⟩:=HS.of bg;rw[<-Ga 17 M0];refine AV _ _ K1 81 98 env hE (QB hk) Jb (fun new q1 q2=> ?_);refine wg 1 Y ?_;obtain⟨ds,f1,f2⟩:=AG q2 _ _ e2;obtain⟨f3,f4⟩:=f2.oV (n:=8);refine e_ (LX f1) (d:= .sl (ds.map fun d=>[d])) (show(if ds.length=8*1 then(uy 1 8 ds).map D.sl else none)=_ by rw[i_ f3,Hq 8 ds f3];rfl) rfl<|e_ (eV (d2 (dG (dG hq)) rfl) (eV (d2 (kV q1) rfl) rfl)) (Yl (BR.map f4) (by rw[xm,f3];omega)) rfl<|wg 1 Y ?_;have Cu:(env++new++[D.sl (ds.map fun d=>[d])]++[D.sl (q++ds.map fun d=>[d])]).length=100:=by rw[xa,xa,q1];rfl
 have I7:=AN (env:=env++new++[D.sl (ds.map fun d=>[d])]++[D.sl (q++ds.map fun d=>[d])]) (ws++(bs++[gH])) 1 (fun i d hi=>⟨dG (dG (dG (hs i d hi))),hh.cells d (xu hi)⟩);rw[hh.len] at I7;have Bz:=kV (l:=env++new++[D.sl (ds.map fun d=>[d])]) (n:=99) (d:=D.sl (q++ds.map fun d=>[d])) (by rw[xa,q1];rfl);have sk:∀c k,T.get none K1 c=some k->∃d,(env++new++[D.sl (ds.map fun d=>[d])]++[D.sl (q++ds.map fun d=>[d])])[c]? =some d/\mw k d:=fun c k nR=>(q2 c k nR).imp fun d ⟨h1,h2⟩=>⟨dG (dG h1),h2⟩
 refine Wp.call (ds:=(ws++(bs++[gH]))++[.sl (q++ds.map fun d=>[d])]) (Dv I7 (eV (d1 Bz rfl) rfl)) (Qb (by rw[xa,xm,f3];omega) (hb.app (BR.map f4)) hh) (fun o ho=> .inl ⟨?_,?_⟩)
 ·obtain⟨w2,b2,t2,rfl,h2⟩:=HS.of ho;exact Dh _ 73 h2.len h2.cells
 show Wp F X _ PA _ _;rw[<-Ga 56 PA];have rp:o.length=73:=by obtain⟨w2,b2,t2,rfl,h2⟩:=HS.of ho;exact h2.len
 refine AV _ _ K2 173 n2 _ (by rw[xa,Cu,rp]) (X8 Cu sk (dB.us ho)) Ja (fun ai2 r1 r2=> ?_);obtain⟨pV,g1,g2⟩:=AG r2 _ _ e3;exact Wp.ret g1 g2
def M1:DT:= .op (.bin .shl 0) [cd 73,.int .u64 3] aW2
def as7:Bool:=match uI (EJ 17 M1) (Fs ([none]++(kL.map some++List.replicate 6 none))) 80 with
 |some (K1,n)=>Nat.beq n 97&& (Cw (rO K1 (a8 (rY 17 M1))) (List.replicate 8 .u8)&& (match uI (EJ 56 Pz) (l4 (kL.map some) 99 K1) 172 with
  |some (K2,_)=>Cw (rO K2 (ah0 (rY 56 Pz))) (List.replicate 32 .u8)
  |none=>false))
 |none=>false
theorem aH7:as7=true:=by kernel_rfl
theorem br6{env:a0d}{st:a0d}{q:a0b}(bg:iE kL st)(hE:env.length=80)(hk:dB ([none]++(kL.map some++List.replicate 6 none)) env)(hs:∀i d,st[i]? =some d->env[1+i]? =some d)(hq:env[79]? =some (.sl q))(hb:BR q)(hql:q.length<=100):Wp F X 114 M1 env (fun o=>iE (List.replicate 32 .u8) o):=by
 have h:=aH7;unfold as7 at h;split at h;rotate_left
 ·cases h
 rename_i K1 n Jb;simp only [xf] at h;obtain⟨e1,e2,e3⟩:=h;have e1:=xb e1;subst e1;have e2:=G4 e2;split at e3;rotate_left
 ·cases e3
 rename_i K2 n2 Ja;have e3:=G4 e3;obtain⟨ws,bs,gH,rfl,hh⟩:=HS.of bg;rw[<-Ga 17 M1];refine AV _ _ K1 80 97 env hE (QB hk) Jb (fun new q1 q2=> ?_);refine wg 1 Y ?_;obtain⟨ds,f1,f2⟩:=AG q2 _ _ e2;obtain⟨f3,f4⟩:=f2.oV (n:=8);refine e_ (LX f1) (d:= .sl (ds.map fun d=>[d])) (show(if ds.length=8*1 then(uy 1 8 ds).map D.sl else none)=_ by rw[i_ f3,Hq 8 ds f3];rfl) rfl<|e_ (eV (d2 (dG (dG hq)) rfl) (eV (d2 (kV q1) rfl) rfl)) (Yl (BR.map f4) (by rw[xm,f3];omega)) rfl<|wg 1 Y ?_;have Cu:(env++new++[D.sl (ds.map fun d=>[d])]++[D.sl (q++ds.map fun d=>[d])]).length=99:=by rw[xa,xa,q1];rfl
 have I7:=AN (env:=env++new++[D.sl (ds.map fun d=>[d])]++[D.sl (q++ds.map fun d=>[d])]) (ws++(bs++[gH])) 1 (fun i d hi=>⟨dG (dG (dG (hs i d hi))),hh.cells d (xu hi)⟩);rw[hh.len] at I7;have Bz:=kV (l:=env++new++[D.sl (ds.map fun d=>[d])]) (n:=98) (d:=D.sl (q++ds.map fun d=>[d])) (by rw[xa,q1];rfl);have sk:∀c k,T.get none K1 c=some k->∃d,(env++new++[D.sl (ds.map fun d=>[d])]++[D.sl (q++ds.map fun d=>[d])])[c]? =some d/\mw k d:=fun c k nR=>(q2 c k nR).imp fun d ⟨h1,h2⟩=>⟨dG (dG h1),h2⟩
 refine Wp.call (ds:=(ws++(bs++[gH]))++[.sl (q++ds.map fun d=>[d])]) (Dv I7 (eV (d1 Bz rfl) rfl)) (Qb (by rw[xa,xm,f3];omega) (hb.app (BR.map f4)) hh) (fun o ho=> .inl ⟨?_,?_⟩)
 ·obtain⟨w2,b2,t2,rfl,h2⟩:=HS.of ho;exact Dh _ 73 h2.len h2.cells
 show Wp F X _ Pz _ _;rw[<-Ga 56 Pz];have rp:o.length=73:=by obtain⟨w2,b2,t2,rfl,h2⟩:=HS.of ho;exact h2.len
 refine AV _ _ K2 172 n2 _ (by rw[xa,Cu,rp]) (X8 Cu sk (dB.us ho)) Ja (fun ai2 r1 r2=> ?_);obtain⟨pV,g1,g2⟩:=AG r2 _ _ e3;exact Wp.ret g1 g2
def usC(t:DT):a0e:=match t with| .note _ (.call _ _ us _ _ _)=>us.take 73|_=>[]
theorem bj1:Cw (rO (T.full none 12) (usC ZT)) kL=true:=by kernel_rfl
theorem Zq{n c:Nat}(h:n<=c)(hc:c<=1000):aL (.n5 1 1) [jD n,jD c,.int .u8 0]=some (.sl (List.replicate n [.int .u8 0])):=by
 show(if _ then _ else none)=_;rw[i_ ⟨rfl,h,by simp[mK];omega⟩]
theorem Za{rows:a0b}(hr:rows.length<=1000000000000)(hb:BR rows):Rn F X 114 0 [.sl rows] (fun o=>iE (List.replicate 32 .u8) o):=by
 refine wr Y<|wg 1 Y ?_;obtain⟨ds,f1,f2⟩:=AG (env:=[D.sl rows]) (K:=T.full none 12) (fun c k h=>by rcases T.Da (none:Option xO) none 12 c with e|e<;>(rw[e] at h;cases h)) (usC ZT) kL (G4 bj1);obtain⟨ws,bs,gH,rfl,hh⟩:=HS.of f2;refine Wp.call (ds:=(ws++(bs++[gH]))++[.sl rows]) (Dv f1 (eV (d1 (env:=[D.sl rows]) (i:=0) rfl rfl) rfl)) (Qb hr hb hh) (fun o ho=> .inl ⟨?_,?_⟩)
 ·obtain⟨w2,b2,t2,rfl,h2⟩:=HS.of ho;exact Dh _ 73 h2.len h2.cells
 clear f1 f2 hh;have hko:=dB.us ho;have rp:o.length=73:=by obtain⟨w2,b2,t2,rfl,h2⟩:=HS.of ho;exact h2.len
 have FV:∃T0:Nat,([D.sl rows]++o)[73]? =some (D.int .u64 (.ofNat T0)):=by
  obtain⟨d,h1,T0,rfl,h3⟩:=hko.2 72 .u64 rfl;exact⟨T0,by rw[xq a0C];exact h1⟩
 obtain⟨T0,FV⟩:=FV;have Au:([D.sl rows]++o).length=74:=by rw[xa,rp];rfl
 have lS:dB ([none]++kL.map some) ([D.sl rows]++o):=dB.app dB.oX hko;have vo:∀i d,o[i]? =some d->([D.sl rows]++o)[1+i]? =some d:=fun i d hi=>by
  rw[xq a0C,show 1+i - [D.sl rows].length=i by simp];exact hi
 generalize [D.sl rows]++o=E0 at*;have ha:T0%64<64:=Nat.mod_lt _ a0B;refine e_ (eV (d2 FV rfl) rfl) (mG (a:=T0) (b:=64) .u64 a0B) rfl ?_;generalize T0%64=a at*;have FU:=kV (d:=D.int .u64 ((a:Nat):Int)) Au;have yf:aL (.mv .i64) [D.int .u64 ((a:Nat):Int)]=some (jD a):=by
  show some (D.int .i64 (IntKind.i64.wrap (a:Int)))=_;rw[IntWalk.i64_in _ a0B]
 refine e_ (eV (d2 FU rfl) rfl) yf rfl ?_;have NB:(E0++[D.int .u64 ((a:Nat):Int)]).length=75:=by rw[xa,Au];rfl
 have U8:=kV (d:=jD a) NB;refine e_ (eV rfl (eV (d2 U8 rfl) rfl)) (sQ (a:=56) (b:=(a:Int)) a0B a0B) rfl ?_;have NA:(E0++[D.int .u64 ((a:Nat):Int)]++[jD a]).length=76:=by rw[xa,NB];rfl
 have yj:=kV (d:=D.int .i64 (56 - (a:Int))) NA;have As:(E0++[D.int .u64 ((a:Nat):Int)]++[jD a]++[D.int .i64 (56 - (a:Int))]).length=77:=by rw[xa,NA];rfl
 have IX:dB (([none]++kL.map some)++[none]++[none]++[none]) (E0++[D.int .u64 ((a:Nat):Int)]++[jD a]++[D.int .i64 (56 - (a:Int))]):=((lS.app dB.oX).app dB.oX).app dB.oX;have mX:∀i d,o[i]? =some d->(E0++[D.int .u64 ((a:Nat):Int)]++[jD a]++[D.int .i64 (56 - (a:Int))])[1+i]? =some d:=fun i d hi=>dG (dG (dG (vo i d hi)))
 generalize E0++[D.int .u64 ((a:Nat):Int)]++[jD a]++[D.int .i64 (56 - (a:Int))]=E3 at*;refine d_ (eV (d2 yj rfl) rfl) (kv (a:=56 - (a:Int)) (b:=0)) (fun aK=> ?_) (fun aK=> ?_)
 ·have e1:(56 - (a:Int))+64=((120 - a:Nat):Int):=a0B
  refine e_ (eV (d2 yj rfl) rfl) (d:=jD (120 - a)) (by rw[Ym a0B a0B,e1]) rfl ?_;have C1:=kV (d:=jD (120 - a)) As;refine e_ (eV (d2 C1 rfl) rfl) (bm (a:=120 - a) (b:=8) a0B) rfl ?_;have CU:(E3++[jD (120 - a)]).length=78:=by rw[xa,As];rfl
  have NF:=kV (d:=jD (120 - a+8)) CU;refine e_ (eV (d2 (dG C1) rfl) (eV (d2 NF rfl) rfl)) (Zq (n:=120 - a) (c:=120 - a+8) a0B a0B) rfl ?_;have CT:(E3++[jD (120 - a)]++[jD (120 - a+8)]).length=79:=by rw[xa,CU];rfl
  have g79:=kV (d:=D.sl (List.replicate (120 - a) [D.int .u8 0])) CT;refine Wp.nV (eV (d2 g79 rfl) rfl) (show some (D.bool (decide (0<(List.replicate (120 - a) [D.int .u8 0]).length)))=_ by rw[List.length_replicate,u_ a0B]) ?_;have bg:aL (.ky 0) [D.sl (List.replicate (120 - a) [D.int .u8 0]),.int .i64 0,.int .u8 128]=some (.sl ((List.replicate (120 - a) [D.int .u8 0]).set 0 [D.int .u8 128])):=by
   obtain⟨m,hm⟩:∃m,120 - a=m+1:=⟨119 - a,a0B⟩;rw[hm];rfl
  refine e_ (eV (d2 g79 rfl) rfl) bg rfl ?_;have hE6:(E3++[jD (120 - a)]++[jD (120 - a+8)]++[D.sl (List.replicate (120 - a) [D.int .u8 0])]).length=80:=by rw[xa,CT];rfl
  exact br5 ho (by rw[xa,hE6];rfl) ((((IX.app dB.oX).app dB.oX).app dB.oX).app dB.oX) (fun i d hi=>dG (dG (dG (dG (mX i d hi))))) (kV hE6) (BR.set BR.oV 0) (by rw[xt,List.length_replicate];omega)
 ·have e1:56 - (a:Int)=((56 - a:Nat):Int):=a0B
  rw[e1] at yj aK;refine e_ (eV (d2 yj rfl) rfl) (bm (a:=56 - a) (b:=8) a0B) rfl ?_;have C1:=kV (d:=jD (56 - a+8)) As;refine e_ (eV (d2 (dG yj) rfl) (eV (d2 C1 rfl) rfl)) (Zq (n:=56 - a) (c:=56 - a+8) a0B a0B) rfl ?_;have CU:(E3++[jD (56 - a+8)]).length=78:=by rw[xa,As];rfl
  have NF:=kV (d:=D.sl (List.replicate (56 - a) [D.int .u8 0])) CU;refine Wp.nV (eV (d2 NF rfl) rfl) (show some (D.bool (decide (0<(List.replicate (56 - a) [D.int .u8 0]).length)))=_ by rw[List.length_replicate,u_ a0B]) ?_;have bg:aL (.ky 0) [D.sl (List.replicate (56 - a) [D.int .u8 0]),.int .i64 0,.int .u8 128]=some (.sl ((List.replicate (56 - a) [D.int .u8 0]).set 0 [D.int .u8 128])):=by
   obtain⟨m,hm⟩:∃m,56 - a=m+1:=⟨55 - a,a0B⟩;rw[hm];rfl
  refine e_ (eV (d2 NF rfl) rfl) bg rfl ?_;have CT:(E3++[jD (56 - a+8)]++[D.sl (List.replicate (56 - a) [D.int .u8 0])]).length=79:=by rw[xa,CU];rfl
  exact br6 ho (by rw[xa,CT];rfl) (((IX.app dB.oX).app dB.oX).app dB.oX) (fun i d hi=>dG (dG (dG (mX i d hi)))) (kV CT) (BR.set BR.oV 0) (by rw[xt,List.length_replicate];omega)
end
open Go.Ex Go.RowKit Go.Fl
section
variable{X:a0a}
theorem aM7(hX:m8 X)(hP:yq X)(hI:yr X)(h7:D6 X){f:dg}(hf:uj f):Rn F X 106 0 f.s (C8 500000000):=by
 have c0:=Pm hX hf;have L1:LN X 1:=M' a0B;have L0:LN X 0:=M' a0B;have No:=rU hf.name;have h2:=hf.flags.1;have h9:=hf.links.1;have h3:=hf.comps.2.1;have HJ:∀(aa V:List Cm),f.comps=V++aa->∀t':a0h,1<=t'.length->t'.length<=200000+3000000*V.length->Rn F X 106 3 [.sl (f.comps.map Cm.s),jD f.comps.length,jD V.length,.sl (bV t'),jD 1] (C8 500000000):=by
  intro aa
  induction aa with
  |nil=>
   intro V aJ t' q1 q2;rw[xj] at aJ;have hp':V.length=f.comps.length:=by rw[aJ]
   refine wr Y<|wn Y ai<|wo Y (eW (a:=1) (b:=1) a0B a0B)<|wg 2 Y<|wx Y (L0 [[125]] a0C (by simp only [cZ,xi,xd];omega) t' a0B) fun|_,⟨t3,rfl,yi,U6⟩=>⟨Y,?_⟩
   exact wo Y (az (sF _))<|oq<|wy Y (qH (k:=0) (sF _))<|wo Y (Xp a0B)<|wt Y ⟨t3,rfl,a0B⟩
  |cons a aa cX=>
   intro V aJ t' q1 q2;have aD:=bG aJ;have ao:=cA (f:=Cm.s) aJ;have next:=cX (V++[a]) (by rw[aJ,bw]);rw[xa] at next;have e1:V.length+[a].length=V.length+1:=rfl;rw[e1] at next;have cc:=aJ2 (X:=X) hP hI h7 (hf.comps.2.2 a (by rw[aJ];simp)) (t:=t') a0B;obtain⟨a1,a2,a3⟩:=a;refine wr Y<|wy Y ai<|wo Y (aA ao Y)<|wg 1 Y<|w9<|wg 1 Y<|wx Y cc fun|_,⟨t2,rfl,FQ,CX⟩=>⟨Y,?_⟩
   refine wo Y oA<|b_ Y ?_;have hb:t2.length<=200000+3000000*(V.length+1):=by rw[Nat.mul_add,Nat.mul_one,<-Nat.add_assoc];exact xH CX (Nat.add_le_add_right q2 _)
   exact next t2 a0B hb
 have Bp:∀(aa V:List Lk),f.links=V++aa->∀t':a0h,1<=t'.length->t'.length<=20000+6200*V.length->Rn F X 106 2 [.sl (f.links.map Lk.d),jD f.links.length,jD V.length,.str f.name,.sl (f.flags.map Fg.d),.sl (f.comps.map Cm.s),.sl (bV t'),jD 1] (C8 500000000):=by
  intro aa
  induction aa with
  |nil=>
   intro V aJ t' q1 q2;rw[xj] at aJ;have hp':V.length=f.links.length:=by rw[aJ]
   exact wr Y<|wn Y ai<|wo Y (az (xm _))<|b_ Y (HJ f.comps [] rfl t' q1 a0F)
  |cons a aa cX=>
   intro V aJ t' q1 q2;have aD:=bG aJ;have ao:=cA (f:=Lk.d) aJ;have next:=cX (V++[a]) (by rw[aJ,bw]);rw[xa] at next;have e1:V.length+[a].length=V.length+1:=rfl;rw[e1] at next;have ha:=hf.links.2 a (by rw[aJ];simp);have g1:=rU ha.src;have g2:=rU ha.dst;obtain⟨s9,Ae,ci⟩:=hI.Mj a.Aa (by have:=ha.Aa;omega);obtain⟨a1,a2,a3⟩:=a;simp only at g1 g2 ci;refine wr Y<|wy Y ai<|wo Y (aA ao Y)<|wg 1 Y<|mg<|wl Y ci rfl<|wg 2 Y<|wx Y (L1 [[108,105,110,107,32],a1,[32,45,62,32],a2,[32,108,97,116,101,110,99,121,32],s9,[59]] a0C (by simp only [cZ,xi,xd];omega) t' a0B) fun|_,⟨t2,rfl,FQ,CX⟩=>⟨Y,?_⟩
   exact wo Y oA<|hZ<|b_ Y (next t2 a0B a0B)
 have BC:∀(aa V:List Fg),f.flags=V++aa->∀t':a0h,1<=t'.length->t'.length<=1000+6200*V.length->Rn F X 106 1 [.sl (f.flags.map Fg.d),jD f.flags.length,jD V.length,.str f.name,.sl (f.links.map Lk.d),.sl (f.comps.map Cm.s),.sl (bV t'),jD 1] (C8 500000000):=by
  intro aa
  induction aa with
  |nil=>
   intro V aJ t' q1 q2;rw[xj] at aJ;have hp':V.length=f.flags.length:=by rw[aJ]
   exact wr Y<|wn Y ai<|wo Y (az (xm _))<|b_ Y (Bp f.links [] rfl t' q1 a0F)
  |cons a aa cX=>
   intro V aJ t' q1 q2;have aD:=bG aJ;have ao:=cA (f:=Fg.d) aJ;have next:=cX (V++[a]) (by rw[aJ,bw]);rw[xa] at next;have e1:V.length+[a].length=V.length+1:=rfl;rw[e1] at next;have g1:=rU (hf.flags.2 a (by rw[aJ];simp));obtain⟨a1,a2⟩:=a;simp only at g1;cases a2
   ·refine wr Y<|wy Y ai<|wo Y (aA ao Y)<|wg 2 Y<|dC<|wl Y as0 rfl<|wg 2 Y<|wx Y (L1 [[102,108,97,103,32],a1,[32,61,32],[102,97,108,115,101],[59]] a0C (by simp only [cZ,xi,xd];omega) t' a0B) fun|_,⟨t2,rfl,FQ,CX⟩=>⟨Y,?_⟩
    exact wo Y oA<|oT<|b_ Y (next t2 a0B a0B)
   ·refine wr Y<|wy Y ai<|wo Y (aA ao Y)<|wg 1 Y<|dC<|wl Y bJ7 rfl<|wg 2 Y<|wx Y (L1 [[102,108,97,103,32],a1,[32,61,32],[116,114,117,101],[59]] a0C (by simp only [cZ,xi,xd];omega) t' a0B) fun|_,⟨t2,rfl,FQ,CX⟩=>⟨Y,?_⟩
    exact wo Y oA<|oT<|b_ Y (next t2 a0B a0B)
 have g:=BC f.flags [] rfl;have a0:aL (.app 1 1) [.sl [],.str [102,108,101,101,116,32]]=some (.sl (bV [102,108,101,101,116,32])):=vW (t:=[]) a0C;have c0:Rn F X 41 0 [.str f.name,.sl (f.flags.map Fg.d),.sl (f.links.map Lk.d),.sl (f.comps.map Cm.s)] (·=[iD 0]):=c0;show Rn F X 106 0 [.str f.name,.sl (f.flags.map Fg.d),.sl (f.links.map Lk.d),.sl (f.comps.map Cm.s)] _;exact wr Y<|wl Y c0 Y<|wg 2 Y<|wo Y a0<|wg 1 Y<|wo Y (vW a0G)<|wg 1 Y<|w8<|wg 1 Y<|wo Y (vW a0G)<|wg 2 Y<|wo Y (Yk a0G)<|wo Y (az (cq _ _))<|mg<|b_ Y (g _ a0G a0G)
def Ck(l:a0d):Prop:=iE (List.replicate 32 .u8) l
theorem Ck.len{l:a0d}(h:Ck l):l.length=32:=h.oV.1
theorem Ck.cells{l:a0d}(h:Ck l):∀d∈l,d.cell=true:=fun d hd=>AM (h.oV.2 d hd)
theorem aI1(s:a0h):BR (bV s):=fun row hr=>by
 obtain⟨b,_,rfl⟩:=xJ.1 hr;exact⟨_,rfl,b.toNat,rfl,b.toNat_lt⟩
theorem aQ7{E ids:a0d}{n:Nat}(hE:E.length=n)(hc:∀d∈ids,d.cell=true):aI (aZ (lk (E++ids))) (C6 n ids.length)=some ids:=
 AN ids n fun i d hi=>⟨by rw[<-hE,xq a0B,Nat.add_sub_cancel_left];exact hi,hc d (xu hi)⟩
def rD(f:dg)(src:aq)(ids:a0d)(rows:a0b):a0d:=f.s++[.str src]++(ids++[.ptr [.sl rows] 0])
def nT(f:dg)(src:aq)(ids:a0d)(rows:a0b):D:= .ptr (rD f src ids rows) 0
def OfQ(ar:a0f)(f:dg)(o:a0d):Prop:=∃(src:aq) (rows:a0b) (ids:a0d),o=[nT f src ids rows,iD 0]/\Ez ar rows/\Ck ids
theorem bs9(hX:m8 X)(hP:yq X)(hI:yr X)(h7:D6 X){ar:a0f}{f:dg}(hf:gZ ar f):Rn F X 107 0 f.s (OfQ ar f):=by
 have c1:=aC9 hX hI hf;have c2:=aM7 hX hP hI h7 hf.ok;have c3:=Ku (X:=X) hf.ok;obtain⟨nm,fl,lk,cs⟩:=f;have sm:=fun(s:a0h) (h:s.length<=500000000)=>Za (X:=X) (rows:=bV s) (by rw[sF];omega) (aI1 s)
 refine wr Y<|wg 1 Y<|wx Y c1 fun|_,⟨rows,rfl,hr⟩=>⟨Y,?_⟩
 refine wg 2 Y<|wx Y c2 fun|_,⟨s,rfl,hs⟩=>⟨Y,?_⟩
 refine wl Y c3 Y<|dC<|wg 1 Y<|wo Y (vW (t:=[]) (by simp only [xd];omega))<|wg 1 Y<|wx Y (sm s hs) ?_;intro ids uW;have uW:Ck ids:=uW;refine⟨Dh ids 32 uW.len uW.cells,?_⟩;dsimp only [eA,Ex.r,St.r,c_,n_,lh,lg,k9,kZ,kY,dg.s];have hd:=fun(E:a0d) (hE:E.length=13)=>aQ7 (ids:=ids) hE uW.cells
 rw[uW.len] at hd;refine e_ (LX (Dv (a:=[cd 7,cd 8,cd 9,cd 10,cd 6]) rfl (Dv (hd [_,_,_,_,_,_,_,_,_,_,_,_,_] rfl) (b:=[cd 4]) rfl))) rfl rfl<|Wp.ret (eV (d1 (kV (by simp only [xi,uW.len])) rfl) rfl) ⟨s,rows,ids,rfl,hr,uW⟩
def bA7(o:a0d):Prop:=∃(f:dg) (ar:a0f) (src:aq) (rows:a0b) (ids:a0d),o=nT f src ids rows::f.r/\gZ ar f/\Ez ar rows/\Ck ids
theorem aY4(p:vc):Rn F X 108 0 p.d bA7:=by
 have c1:=Pn (X:=X) p;obtain⟨fl,L,C⟩:=p;refine wr Y<|wg 1 Y<|wx Y c1 ?_;rintro _ ⟨f,ar,rfl,hf⟩;have c2:=aD8 (X:=X) hf.ok;have c3:=bs9 (X:=X) ⟨aF6⟩ xpr aZ2 (aI8 xpr) hf;obtain⟨nm,U9,lk,cs⟩:=f;refine⟨rfl,?_⟩;refine wg 1 Y<|w7<|wL Y c2 Y<|dC<|wg 1 Y<|wx Y c3 fun|_,⟨src,rows,ids,rfl,hr,uW⟩=>⟨Y,?_⟩
 exact wg 1 Y<|wt Y ⟨⟨nm,U9,lk,cs⟩,ar,src,rows,ids,rfl,hf,hr,uW⟩
end
open Go.Ex Go.RowKit Go.Sort Go.Fl
def cw:a0s->aq->a0r|[],_=>none|x::t,s=>if x=s then some 0 else(cw t s).map (· +1)
def oO(i:Nat):Option Nat->List D|none=>[jD 0,.bool false]|some j=>[jD (j+i),.bool true]
theorem O3(i:Nat)(o:a0r):oO i (o.map (· +1))=oO (i+1) o:=by
 cases o with
 |none=>rfl
 |some j=>show[jD (j+1+i),_]=[jD (j+(i+1)),_];rw[Nat.add_right_comm,Nat.add_assoc]
section
variable{X:a0a}
theorem Zs{l:List Vr}(hl:l.length<=1000)(s:aq):∀(aa V:List Vr),l=V++aa->Rn F X 120 1 [.ptr [.sl (l.map Vr.s)] 0,.ptr [.str s] 0,jD l.length,jD V.length] (·=oO V.length (cw (aa.map (·.name)) s))
 |[],V,h=>by
  have aW:l.length=V.length:=by rw[h,xj]
  exact wr Y<|wn Y ai<|wt Y Y
 |v::aa,V,h=>by
  have aW:l.length=V.length+(aa.length+1):=by rw[h,xa];rfl
  have ao:(l.map Vr.s)[V.length]? =some v.s:=by rw[h,List.map_append,xq (by rw[xm];exact xk _),xm,Nat.sub_self];rfl
  refine wr Y<|wy Y ai<|wg 1 Y<|wo Y (aA ao Y)<|wg 3 Y ?_;show Wp F X 120 _ _ (·=oO V.length (if v.name=s then some 0 else(cw (aa.map (·.name)) s).map (· +1)));refine d_ (ds:=[.str v.name,.str s]) rfl jE (fun e=> ?_) (fun e=> ?_)
  ·rw[i_ e];exact wt Y (by show _=[jD (0+V.length),_];rw[Nat.zero_add])
  ·rw[j_ e,O3];have ih:=Zs hl s aa (V++[v]) (by rw[h,a_];rfl);rw[xa] at ih;exact wo Y oA<|wj ih
theorem Zu{f:dg}{src:aq}{ids:a0d}{rows:a0b}(hl:f.comps.length<=1000)(s:aq):∀(aa V:List Cm),f.comps=V++aa->Rn F X 118 1 [.ptr [nT f src ids rows] 0,.ptr [.str s] 0,jD f.comps.length,jD V.length] (·=oO V.length (cw (aa.map (·.name)) s))
 |[],V,h=>by
  have aW:f.comps.length=V.length:=by rw[h,xj]
  exact wr Y<|wn Y ai<|wt Y Y
 |v::aa,V,h=>by
  have aW:f.comps.length=V.length+(aa.length+1):=by rw[h,xa];rfl
  have ao:(f.comps.map Cm.s)[V.length]? =some v.s:=by rw[h,List.map_append,xq (by rw[xm];exact xk _),xm,Nat.sub_self];rfl
  refine wr Y<|wy Y ai<|wg 2 Y<|wn Y ai<|wg 5 Y<|wo Y bf<|Wp.dF Y fp (by rw[xm];omega)<|wg 4 Y<|wo Y (aA ao Y)<|wg 1 Y ?_;show Wp F X 118 _ _ (·=oO V.length (if v.name=s then some 0 else(cw (aa.map (·.name)) s).map (· +1)));dsimp only [Cm.s,c_,n_];refine d_ (ds:=[.str v.name,.str s]) rfl jE (fun e=> ?_) (fun e=> ?_)
  ·rw[i_ e];exact wt Y (by show _=[jD (0+V.length),_];rw[Nat.zero_add])
  ·rw[j_ e,O3];have ih:=Zu (src:=src) (ids:=ids) (rows:=rows) hl s aa (V++[v]) (by rw[h,a_];rfl);rw[xa] at ih;exact wo Y oA<|wj ih
theorem Zt{f:dg}{src:aq}{ids:a0d}{rows:a0b}(hl:f.flags.length<=1000)(s:aq):∀(aa V:List Fg),f.flags=V++aa->Rn F X 119 1 [.ptr [nT f src ids rows] 0,.ptr [.str s] 0,jD f.flags.length,jD V.length] (·=oO V.length (cw (aa.map (·.name)) s))
 |[],V,h=>by
  have aW:f.flags.length=V.length:=by rw[h,xj]
  exact wr Y<|wn Y ai<|wt Y Y
 |⟨vn,vb⟩::aa,V,h=>by
  have aW:f.flags.length=V.length+(aa.length+1):=by rw[h,xa];rfl
  have ao:(f.flags.map Fg.d)[V.length]? =some [.str vn,.bool vb]:=by rw[h,List.map_append,xq (by rw[xm];exact xk _),xm,Nat.sub_self];rfl
  refine wr Y<|wy Y ai<|wg 2 Y<|wn Y ai<|wg 5 Y<|wo Y bf<|Wp.dF Y fp (by rw[xm];omega)<|wg 4 Y<|wo Y (aA ao Y) ?_;have ih:=Zt (src:=src) (ids:=ids) (rows:=rows) hl s aa (V++[⟨vn,vb⟩]) (by rw[h,a_];rfl);rw[xa] at ih;show Wp F X 119 _ _ (·=oO V.length (if vn=s then some 0 else(cw (aa.map (·.name)) s).map (· +1)));have key:Wp F X 119 bg1 ([.ptr [nT f src ids rows] 0,.ptr [.str s] 0,jD f.flags.length,jD V.length,nT f src ids rows,.str s,nT f src ids rows,nT f src ids rows,.ptr (rD f src ids rows) 1,.sl (f.flags.map Fg.d),jD (f.flags.map Fg.d).length,nT f src ids rows,nT f src ids rows,.ptr (rD f src ids rows) 1,.sl (f.flags.map Fg.d),.ptr [.str vn,.bool vb] 0,.str vn,.bool vb]) (·=oO V.length (if vn=s then some 0 else(cw (aa.map (·.name)) s).map (· +1))):=by
   refine d_ (ds:=[.str vn,.str s]) rfl jE (fun e=> ?_) (fun e=> ?_)
   ·rw[i_ e];exact wt Y (by show _=[jD (0+V.length),_];rw[Nat.zero_add])
   ·rw[j_ e,O3];exact wo Y oA<|wj ih
  cases vb with
  |true=>exact Wp.aV Y Y Y key
  |false=>exact Wp.opN Y Y Y (Wp.aV Y Y Y key)
end
end
end Go.Proofs.YthicpeihkkokmaaGreatDoor
namespace Go.Fl
structure Cx where
 f:dg
 src:aq
 ids:List Go.Ex.D
 rows:List (List Go.Ex.D)
 i:Nat
 cm:Cm
def Cx.vn(x:Cx):a0s:=x.cm.vars.map (·.name)
def Cx.fn(x:Cx):a0s:=x.f.flags.map (·.name)
end Go.Fl
namespace Go.Proofs.YthicpeihkkokmaaGreatDoor
open Go.Ex Go.RowKit Go.Sort Go.Fl
structure Iy (x:Cx):Prop where
 hc:x.f.comps[x.i]? =some x.cm
 nv:x.cm.vars.length<=1000
 nf:x.f.flags.length<=1000
 nc:x.f.comps.length<=1000
def wN(x:Cx)(s:aq):Nd:=⟨1,(x.i:Nat),(((cw x.vn s).getD 0:Nat):Int)⟩
def rN(x:Cx)(s:aq):a0m:=match cw x.vn s with
 |some v=>[⟨1,(x.i:Nat),(v:Nat)⟩]
 |none=>match cw x.fn s with
  |some k=>[⟨4,(k:Nat),0⟩]
  |none=>[]
def bx(x:Cx)(h:Nd)(l:a0m)(E:a0i):Bd:=⟨rD x.f x.src x.ids x.rows,0,(x.i:Nat),h,l,E⟩
def Bd.x(b:Bd)(x:Cx):Prop:=∃h l E,b=bx x h l E
theorem Bd.x.jl{b:Bd}{x:Cx}(h:b.x x)(e:Nd×Nd):(b.jl e).x x:=by
 obtain⟨h,l,E,rfl⟩:=h;exact⟨h,_,_,rfl⟩
theorem Bd.x.j9{x:Cx}:∀(es:a0i) {b:Bd},b.x x->(b.j9 es).x x
 |[],_,h=>h
 |e::es,_,h=>Bd.x.j9 es (h.jl e)
theorem OK(b:Bd)(u v:a0i):(b.j9 u).j9 v=b.j9 (u++v):=(List.foldl_append ..).symm
theorem P3:∀(es:a0i) (b:Bd),(b.j9 es).h=b.h
 |[],_=>rfl
 |e::es,b=>P3 es (b.jl e)
section
variable{X:a0a}{x:Cx}(hx:Iy x)
include hx in
theorem Y2{b:Bd}(hb:b.x x)(s:aq):Rn F X 122 0 (b.d++[.str s]) (·=[.int .u8 1,jD x.i]++oO 0 (cw x.vn s)++b.d):=by
 obtain⟨h,l,E,rfl⟩:=hb;have hi:=(xe.1 hx.hc).1;have ao:(x.f.comps.map Cm.s)[x.i]? =some x.cm.s:=by rw[xx,hx.hc];rfl
 have n1:=Zs (X:=X) hx.nv s x.cm.vars [] rfl;rw[show(bx x h l E).d=[nT x.f x.src x.ids x.rows,jD x.i,.int .u8 h.k,.int .i64 h.a,.int .i64 h.b,.sl (l.map eS),.sl (E.map l5)] from Y];refine wr Y<|wn Y ai<|wg 5 Y<|wo Y bf<|Wp.dF Y fp (by rw[xm];omega)<|wg 4 Y<|wo Y (aA ao Y)<|wg 1 Y ?_;dsimp only [Cm.s,c_,n_];refine wo Y bf<|wg 3 Y ?_;have n2:Rn F X 120 0 [jD (x.cm.vars.map Vr.s).length,.ptr [.sl (x.cm.vars.map Vr.s)] 0,.ptr [.str s] 0] (·=oO 0 (cw x.vn s)):=by
  rw[xm];exact wr Y<|wj n1
 cases hp:cw x.vn s with
 |none=>
  rw[hp] at n2;exact Wp.HL (f:=107) rfl n2 rfl<|wL Y n2 rfl<|wt Y Y
 |some v=>
  rw[hp] at n2;exact Wp.jU (f:=107) rfl n2 rfl<|wt Y Y
end
section
mutual
def yl(x:Cx)(o:Nd):Fl.Ex->a0i| .mk op name _ args=>(if op=5\/op=6\/op=7\/op=8 then(rN x name).map (·,o) else[])++E2 x o args
def E2(x:Cx)(o:Nd):List Fl.Ex->List (Nd×Nd)|[]=>[]|e::l=>yl x o e++E2 x o l
end
section
variable{X:a0a}{x:Cx}(hx:Iy x)
theorem aN4(hl:x.f.flags.length<=1000)(s:aq):Rn F X 119 0 [jD (x.f.flags.map Fg.d).length,.ptr [nT x.f x.src x.ids x.rows] 0,.ptr [.str s] 0] (·=oO 0 (cw x.fn s)):=by
 rw[xm];exact wr Y<|wj (Zt hl s x.f.flags [] rfl)
include hx in
theorem bn2{b:Bd}(hb:b.x x)(op:D)(ek:op.cell=true)(name:aq)(n:Nat)(args:List Fl.Ex){es:a0i}
 (loop:∀{b':Bd},b'.x x->b'.h=b.h->Rn F X 127 1 ([.sl (Ex.ss args),jD args.length,jD 0]++b'.d) (·=(b'.j9 es).d)):
 Wp F X 127 X' (b.d++[op,.str name,jD n,.sl (Ex.ss args)]) (·=(b.j9 ((rN x name).map (·,b.h)++es)).d):=by
 have hv:=Y2 (X:=X) hx hb name;rw[<-OK];unfold rN;cases hp:cw x.vn name with
 |some v=>
  rw[hp] at hv;refine wL Y hv rfl<|wl Y (Gn (b:=b) ⟨1,(x.i:Nat),(v:Nat)⟩) rfl<|wo Y bf<|b_ Y ?_;rw[gF];exact loop (hb.jl _) rfl
 |none=>
  rw[hp] at hv;refine wL Y hv rfl ?_;obtain⟨h,l,E,rfl⟩:=hb;have hn:=aN4 (X:=X) hx.nf name;refine wg 5 Y<|wo Y bf<|wg 3 Y ?_;cases hq:cw x.fn name with
  |some k=>
   rw[hq] at hn;refine wL Y hn rfl<|wg 1 Y ?_;dsimp only [c_,n_,oO];refine wL Y (Gn (b:=bx x h l E) ⟨4,(k:Nat),0⟩) rfl ?_;dsimp only [c_,n_,oO];refine wo Y bf<|b_ Y ?_;rw[gF];exact loop (Bd.x.jl ⟨h,l,E,rfl⟩ _) rfl
  |none=>
   rw[hq] at hn;refine wL Y hn rfl ?_;dsimp only [c_,n_,oO];refine wo Y bf<|b_ Y ?_;rw[gF];exact loop ⟨h,l,E,rfl⟩ rfl
include hx in
theorem aS4{e:Fl.Ex}(he:jK gV e):∀{b:Bd},b.x x->Rn F X 127 0 (b.d++e.s) (·=(b.j9 (yl x b.h e)).d):=by
 induction he with
 | @mk op name n args hn ha ih=>
  intro b hb;obtain⟨h1,h2,h3,h4,h5⟩:=hn.get;have ek:jM op<=2:=by unfold jM;split<;>(try split)<;>omega
  have loop:∀(aa V:List Fl.Ex),args=V++aa->∀{b:Bd},b.x x->Rn F X 127 1 ([.sl (Ex.ss args),jD args.length,jD V.length]++b.d) (·=(b.j9 (E2 x b.h aa)).d):=by
   intro aa
   induction aa with
   |nil=>
    intro V hp b hb;rw[xj] at hp;exact wr Y<|Wp.rG Y (by rw[ai,f_ (by rw[hp];omega)])<|wt Y Y
   |cons a aa dT=>
    intro V hp b hb;have hl:args.length=V.length+(aa.length+1):=by rw[hp,xa];rfl
    have ao:(Ex.ss args)[V.length]? =some a.s:=by rw[hp];exact qF _ _ _
    have has:a.s.length=4:=by obtain⟨_,_,_,_⟩:=a;rfl
    refine wr Y<|Wp.nV Y (by rw[ai,u_ a0B])<|wo Y (aA ao has) ?_;have c:=ih a (by rw[hp];simp) hb;have n2:=dT (V++[a]) (by rw[hp,a_];rfl) (hb.j9 (yl x b.h a));rw[P3,OK,xa] at n2;obtain⟨Fp,Ee,n',args'⟩:=a;exact wg 1 Y<|wl Y c rfl<|wo Y oA<|wj n2
  have l0:=fun{b':Bd} (fY:b'.x x)=>loop args [] rfl fY
  have key:op=5\/op=6\/op=7\/op=8->Wp F X 127 X' (b.d++[bD op,.str name,jD n,.sl (Ex.ss args)]) (·=(b.j9 (yl x b.h ⟨op,name,n,args⟩)).d):=fun ho=>by
   have:=bn2 hx hb (bD op) rfl name n args (es:=E2 x b.h args) (fun fY e=>by have:=l0 fY;rw[e] at this;exact this);unfold yl;rw[i_ ho];exact this
  refine wr Y<|d_ (ds:=[bD op,bD 5]) rfl ay (fun e=>Wp.note (key a0B)) (fun e1=> ?_);refine d_ (ds:=[bD op,bD 6]) rfl ay (fun e=>Wp.note (key a0B)) (fun e2=> ?_);refine d_ (ds:=[bD op,bD 7]) rfl ay (fun e=>Wp.note (key a0B)) (fun e3=> ?_);refine d_ (ds:=[bD op,bD 8]) rfl ay (fun e=>Wp.note (key a0B)) (fun e4=> ?_);unfold yl;rw[j_ a0B];refine wo Y bf<|b_ Y ?_;rw[gF];exact l0 hb
end
end
end Go.Proofs.YthicpeihkkokmaaGreatDoor
namespace Go.Fl
inductive Us where|rd (s:aq)|wr (s:aq)|dk|sn (s:St)|tm (s:St)
mutual
def Ex.us:Ex->List Us| .mk _ name _ args=>(if name=[] then[] else[.rd name])++Ex.fm args
def Ex.fm:List Ex->List Us|[]=>[]|e::l=>Ex.us e++Ex.fm l
end
def St.nm:St->aq| .mk _ n _ _ _ _=>n
def St.hn:St->aq| .mk _ _ h _ _ _=>h
def c8(s:St)(n:aq):Nat->List Us
 |1=>[.wr n]
 |2=>[.rd n,.wr n]
 |3=>[.rd n,.wr n]
 |6=>[.sn s]
 |7=>[.tm s]
 |8=>[.dk]
 |9=>[.rd n,.wr n,.dk]
 |_=>[]
mutual
def St.us:St->List Us| .mk k n h es th el=>c8 (.mk k n h es th el) n k++(Ex.fm es++(St.fm th++St.fm el))
def St.fm:List St->List Us|[]=>[]|s::l=>St.us s++St.fm l
end
theorem dM.mono{P Q:St->Prop}(H:∀s,P s->Q s){s:St}(h:dM P s):dM Q s:=by
 induction h with
 |mk h _ _ i1 i2=>exact .mk (H _ h) i1 i2
theorem dM.and{P Q:St->Prop}{s:St}(h:dM P s):dM Q s->dM (fun s=>P s/\Q s) s:=by
 induction h with
 |mk h _ _ i1 i2=>
  intro k;cases k with
  |mk k k1 k2=>exact .mk ⟨h,k⟩ (fun s hs=>i1 s hs (k1 s hs)) (fun s hs=>i2 s hs (k2 s hs))
def Sb(P:a0p->Prop):St->Prop| .mk _ _ _ _ th el=>P th/\P el
theorem dM.fx{Q:St->Prop}{P:a0p->Prop}(H:∀l:a0p,(∀s∈l,Q s/\Sb P s)->P l){l:a0p}(h:∀s∈l,dM Q s):P l:=by
 have:∀{s:St},dM Q s->Q s/\Sb P s:=fun h=>by
  induction h with
  |mk h _ _ i1 i2=>exact⟨h,H _ i1,H _ i2⟩
 exact H l fun s hs=>this (h s hs)
end Go.Fl
namespace Go.Proofs.YthicpeihkkokmaaGreatDoor
open Go.Ex Go.RowKit Go.Sort Go.Fl
def gI(ar:a0f)(i:Nat):a0s:=aP 104 (ar[i]?.getD []).length
def cN(x:Cx)(s:aq):Nat:=(cw (x.f.comps.map (·.name)) s).getD 0
def hN(ar:a0f)(i:Nat)(s:aq):Nd:=⟨5,(i:Nat),(((cw (gI ar i) s).getD 0:Nat):Int)⟩
def tR(o y z:Nd):a0i:=[(o,y),(o,z),(y,z)]
def rH(ar:a0f)(x:Cx)(o:Nd):Us->a0i
 | .rd s=>(rN x s).map (·,o)
 | .wr s=>[(o,wN x s)]
 | .dk=>[(⟨2,(x.i:Nat),0⟩,o),(o,⟨2,(x.i:Nat),0⟩)]
 | .sn s=>tR o ⟨6,(x.i:Nat),(cN x s.nm:Nat)⟩ (hN ar (cN x s.nm) s.hn)
 | .tm s=>tR o ⟨3,(x.i:Nat),0⟩ (hN ar x.i s.hn)
def Jl(ar:a0f)(x:Cx):St->Prop
 | .mk k n h _ _ _=>(k=1\/k=2\/k=3\/k=9->∃v,cw x.vn n=some v)/\
 (k=6->∃i al j,ar[i]? =some al/\n=[(97+i).toUInt8]/\j<al.length/\h=nm 104 j)/\
 (k=7->∃al j,ar[x.i]? =some al/\j<al.length/\h=nm 104 j)
mutual
theorem ZN(ar:a0f)(x:Cx)(o:Nd):∀{e:Fl.Ex},jK gV e->yl x o e=(Ex.us e).flatMap (rH ar x o)
 | .mk op name n args,h=>by
  have h1:gV ⟨op,name,n,args⟩/\∀a∈args,jK gV a:=by cases h;exact⟨‹_›,‹_›⟩
  have h2:=h1.1.get.2.2.2.2;rw[yl,Ex.us,List.flatMap_append,YP ar x o h1.2]
  congr 1
  rcases h2 with⟨h3,h4,h5⟩|⟨h3,rfl⟩
  ·rw[i_ a0B,j_ (by rintro rfl;revert h5;decide)];exact(xj _).symm
  ·rw[j_ a0B];rfl
theorem YP(ar:a0f)(x:Cx)(o:Nd):∀{l:List Fl.Ex},(∀e∈l,jK gV e)->E2 x o l=(Ex.fm l).flatMap (rH ar x o)
 |[],_=>rfl
 |e::l,h=>by
  rw[E2,Ex.fm,List.flatMap_append,ZN ar x o (h e xn),YP ar x o fun e he=>h e (xo _ he)]
end
theorem Qv{s:aq}:∀{l:a0s} {j:Nat},l[j]? =some s->l.Nodup->cw l s=some j
 |[],_,h,_=>nomatch h
 |x::l,0,h,_=>by
  cases h;exact i_ Y
 |x::l,j+1,h,hd=>by
  have hd:=List.nodup_cons.1 hd;have h:l[j]? =some s:=h;have hm:s∈l:=xu h;have:cw (x::l) s=(cw l s).map (· +1):=j_ fun e:x=s=>hd.1 (e▸hm)
  rw[this,Qv (s:=s) (l:=l) h hd.2];rfl
theorem Xr{l:a0s}{g:Nat->aq}(h:∀i s,l[i]? =some s->s=g i)(inj:∀i j,i<l.length->j<l.length->g i=g j->i=j):l.Nodup:=by
 refine List.pairwise_iff_getElem.2 fun i j hi hj CJ e=> ?_
 have:=inj i j hi hj (by rw[<-h i _ (xc hi),<-h j _ (xc hj),e]);omega
theorem WA{c n:Nat}(hc:c<200)(hn:n<=100):(aP c n).Nodup:=by
 refine Xr (g:=nm c) (fun i s h=> ?_) fun i j hi hj e=> ?_
 ·rw[aP,xx] at h;obtain⟨k,h1,h2⟩:=xp.1 h;obtain⟨_,h1⟩:=xe.1 h1;rw[<-h2,<-h1,List.getElem_range]
 ·rw[Gx] at hi hj;exact(rS a0B a0B a0B a0B e).2
theorem ay2{ar:a0f}{f:dg}(hf:gZ ar f):(f.comps.map (·.name)).Nodup:=by
 have hn:=hf.n;refine Xr (g:=fun i=>[(97+i).toUInt8]) (fun i s h=> ?_) fun i j hi hj e=> ?_
 ·rw[xx] at h;obtain⟨c,h1,h2⟩:=xp.1 h;rw[<-h2];exact(hf.comps i c h1).name
 ·rw[xm] at hi hj;exact DI a0B a0B e
structure eM (ar:a0f) (x:Cx):Prop where
 f:gZ ar x.f
 p:Ez ar x.rows
 id:x.ids.length=32
 c:x.f.comps[x.i]? =some x.cm
theorem JQ{ar:a0f}{f:dg}(hf:gZ ar f){i:Nat}(hi:i<ar.length):cw (f.comps.map (·.name)) [(97+i).toUInt8]=some i:=by
 have hn:=hf.n;have fW:i<f.comps.length:=a0B
 refine Qv ?_ (ay2 hf);rw[xx,xc fW];exact congrArg some (hf.comps i _ (xc fW)).name
theorem Qu{n k:Nat}(hn:n<=3)(hk:k<n):cw (aP 104 n) (nm 104 k)=some k:=by
 refine Qv ?_ (WA a0B a0B);rw[aP,xx,List.getElem?_range hk];rfl
end Go.Proofs.YthicpeihkkokmaaGreatDoor
namespace Go.Fl
mutual
def St.ur:St->List Us| .mk k n h es th el=>Ex.fm es++(c8 (.mk k n h es th el) n k++(St.fw th++St.fw el))
def St.fw:List St->List Us|[]=>[]|s::l=>St.ur s++St.fw l
end
mutual
theorem bi1:∀(s:St) (a:Us),a∈St.ur s↔a∈St.us s
 | .mk k n h es th el,a=>by
  simp only [St.ur,St.us,xF,Kj th a,Kj el a]
  grind
theorem Kj:∀(l:a0p) (a:Us),a∈St.fw l↔a∈St.fm l
 |[],a=>Iff.rfl
 |s::l,a=>by simp only [St.fw,St.fm,xF,bi1 s a,Kj l a]
end
structure Ur where
 R:a0s
 W:a0s
 D:Bool
 S:a0p
 T:a0p
def Ur.add(u:Ur):Us->Ur
 | .rd s=>{u with R:=u.R++[s]}
 | .wr s=>{u with W:=u.W++[s]}
 | .dk=>{u with D:=true}
 | .sn s=>{u with S:=u.S++[s]}
 | .tm s=>{u with T:=u.T++[s]}
def Ur.d(u:Ur):List Go.Ex.D:=[.sl (strs u.R),.sl (strs u.W),.bool u.D,.sl (St.rs u.S),.sl (St.rs u.T)]
structure UrQ (u v:Ur) (uz:List Us):Prop where
 R:∀s,s∈v.R↔s∈u.R\/ .rd s∈uz
 W:∀s,s∈v.W↔s∈u.W\/ .wr s∈uz
 D:v.D=true↔u.D=true\/ .dk∈uz
 S:∀s,s∈v.S↔s∈u.S\/ .sn s∈uz
 T:∀s,s∈v.T↔s∈u.T\/ .tm s∈uz
 n:v.R.length+v.W.length+v.S.length+v.T.length<=u.R.length+u.W.length+u.S.length+u.T.length+uz.length
theorem Ur.TT:∀(uz:List Us) (u:Ur),UrQ u (uz.foldl Ur.add u) uz
 |[],u=>⟨a0C,a0C,a0C,a0C,a0C,a0C⟩
 |a::uz,u=>by
  obtain⟨h1,h2,h3,h4,h5,h6⟩:=Ur.TT uz (u.add a);rw[List.foldl_cons];cases a<;>refine⟨?_,?_,?_,?_,?_,?_⟩<;>grind [Ur.add]
mutual
theorem Ex.DR:∀e:Ex,(Ex.us e).length<=e.sz
 | .mk _ name _ args=>by
  have:=Ex.uv args;rw[Ex.us,Ex.sz,xa];split<;>simp only [xd,xi]<;>omega
theorem Ex.uv:∀l:List Ex,(Ex.fm l).length<=Ex.fT l
 |[]=>xk _
 |e::l=>by
  have:=Ex.DR e;have:=Ex.uv l;rw[Ex.fm,Ex.fT,xa];omega
end
theorem XY(s:St)(n:aq)(k:Nat):(c8 s n k).length<=3:=by
 unfold c8;split<;>simp only [xd,xi]<;>omega
end Go.Fl
namespace Go.Proofs.YthicpeihkkokmaaGreatDoor
open Go.Ex Go.RowKit Go.Sort Go.Fl
theorem DR{s:St}(h:dM jR s):(St.us s).length<=200*s.n/\(St.ur s).length<=200*s.n:=by
 induction h with
 | @mk k n hd es th el h _ _ i1 i2=>
  have ex:(Ex.fm es).length<=3*63:=by
   have h1:=Ex.Y9 fun a ha=>(h.ex a ha).1.M2 (h.ex a ha).2
   have h2:=Ex.uv es;have h3:=h.ln;have h4:es.length*63<=3*63:=xD _ a0B;omega
  have ls:∀l:a0p,(∀s∈l,(St.us s).length<=200*s.n/\(St.ur s).length<=200*s.n)->(St.fm l).length<=200*St.ns l/\(St.fw l).length<=200*St.ns l:=by
   intro l hl
   induction l with
   |nil=>exact⟨xL _,xL _⟩
   |cons a l ih=>
    have h1:=hl a xn;have h2:=ih fun s hs=>hl s (xo _ hs)
    simp only [St.fm,St.fw,St.ns,xa];omega
  have h1:=ls th i1;have h2:=ls el i2;have h3:=XY (.mk k n hd es th el) n k;simp only [St.us,St.ur,St.n,xa];omega
theorem uv{l:a0p}(h:∀s∈l,dM jR s):(St.fm l).length<=200*St.ns l/\(St.fw l).length<=200*St.ns l:=by
 induction l with
 |nil=>exact⟨xL _,xL _⟩
 |cons a l ih=>
  have h1:=DR (h a xn);have h2:=ih fun s hs=>h s (xo _ hs)
  simp only [St.fm,St.fw,St.ns,xa];omega
def Nd.q(n:Nd):a0d:=[.int .i64 n.k,.int .i64 n.a,.int .i64 n.b]
def fe(l:a0m):a0b:=l.map Nd.q
def tC(n:Nd):List Nd->List Nd|[]=>[n]|x::t=>if aC n x then n::x::t else x::tC n t
def ra(l:a0m)(n:Nd):a0m:=if n∈l then l else tC n l
theorem O8{n x:Nd}:∀{l:a0m},x∈tC n l↔x∈l\/x=n
 |[]=>by simp[tC]
 |y::l=>by
  unfold tC;split
  ·simp only [xG];grind
  ·simp only [xG,O8 (l:=l)];grind
theorem aO0{n x:Nd}{l:a0m}:x∈ra l n↔x∈l\/x=n:=by
 unfold ra;split
 ·grind
 ·exact O8
theorem Xx{n:Nd}:∀{l:a0m},(tC n l).length=l.length+1
 |[]=>rfl
 |y::l=>by
  unfold tC;split
  ·rfl
  ·rw[xi,Xx (l:=l),xi]
theorem Pa{n:Nd}{l:a0m}:(ra l n).length<=l.length+1:=by
 unfold ra;split
 ·omega
 ·rw[Xx];exact xk _
abbrev uk(l:a0m):Prop:=l.Pairwise fun x y=>aC x y=true
theorem Yx{x y:Nd}(h:aC x y=false)(hn:x≠y):aC y x=true:=by
 obtain⟨a,b,c⟩:=x;obtain⟨d,e,f⟩:=y;have hn: ¬(a=d/\b=e/\c=f):=fun⟨h1,h2,h3⟩=>hn (by rw[h1,h2,h3])
 have h:=of_decide_eq_false h;refine u_ ?_;simp only at h⊢;omega
theorem Zz{x y z:Nd}(h:aC x y=true)(k:aC y z=true):aC x z=true:=by
 have h:=of_decide_eq_true h;have k:=of_decide_eq_true k;refine u_ ?_;omega
theorem XO{n:Nd}:∀{l:a0m},uk l->n∉l->uk (tC n l)
 |[],_,_=>List.pairwise_singleton _ _
 |y::l,h,hn=>by
  have h0:=List.pairwise_cons.1 h;unfold tC;split
  ·rename_i hy;refine List.pairwise_cons.2 ⟨fun z hz=> ?_,h⟩;rcases xG.1 hz with rfl|hz
   ·exact hy
   ·exact Zz hy (h0.1 z hz)
  ·rename_i hy;refine List.pairwise_cons.2 ⟨fun z hz=> ?_,XO h0.2 fun hm=>hn (xo _ hm)⟩;rcases O8.1 hz with hz|rfl
   ·exact h0.1 z hz
   ·exact Yx (Bool.eq_false_iff.2 hy) fun e=>hn (e▸xn)
theorem aS7{n:Nd}{l:a0m}(h:uk l):uk (ra l n):=by
 unfold ra;split
 ·exact h
 ·exact XO h ‹_›
theorem bd6{l k:a0m}(h1:uk l)(h2:uk k)(h:∀n,n∈l↔n∈k):l=k:=by
 have irr:∀x:Nd,aC x x=false:=fun x=>f_ a0B
 have nd:∀{l:a0m},uk l->l.Nodup:=fun h=>h.imp fun{a b} hl e=>by rw[e,irr b] at hl;cases hl
 exact((List.perm_ext_iff_of_nodup (nd h1) (nd h2)).2 h).eq_of_pairwise (fun a b _ _ h k=>by have:=Zz h k;rw[irr] at this;cases this) h1 h2
def eo(l ns:a0m):a0m:=ns.foldl ra l
theorem GL:∀(ns l:a0m),uk l->uk (eo l ns)/\(∀x,x∈eo l ns↔x∈l\/x∈ns)/\(eo l ns).length<=l.length+ns.length
 |[],l,h=>⟨h,fun x=>by simp[eo],xk _⟩
 |n::ns,l,h=>by
  obtain⟨h1,h2,h3⟩:=GL ns (ra l n) (aS7 h);refine⟨h1,fun x=>(h2 x).trans ?_,xH h3 ?_⟩
  ·rw[aO0,xG];grind
  ·have:=Pa (n:=n) (l:=l);rw[xi];omega
def mt(s:aq):Nat->List aq->List Nat|_,[]=>[]|i,x::l=>(if x=s then[i] else[])++mt s (i+1) l
theorem QA{s:aq}:∀{l:a0s} {i:Nat},l.Nodup->mt s i l=((cw l s).map (· +i)).toList
 |[],_,_=>rfl
 |x::l,i,h=>by
  have h:=List.nodup_cons.1 h;have ih:=QA (s:=s) (l:=l) (i:=i+1) h.2;have no:∀{l:a0s},s∉l->cw l s=none:=by
   intro l hl
   induction l with
   |nil=>rfl
   |cons y l ih=>
    rw[xG,not_or] at hl;show(if y=s then _ else _)=_;rw[j_ fun e=>hl.1 e.symm,ih hl.2];rfl
  show(if x=s then[i] else[])++mt s (i+1) l=((if x=s then some 0 else(cw l s).map (· +1)).map (· +i)).toList;rw[ih];by_cases e:x=s
  ·rw[i_ e,i_ e,no (e▸h.1)];show[i]++[]=[0+i];rw[Nat.zero_add];rfl
  ·rw[j_ e,j_ e];cases cw l s with
   |none=>rfl
   |some v=>show[v+(i+1)]=[v+1+i];rw[Nat.add_right_comm,Nat.add_assoc]
section
variable{X:a0a}
theorem bJ9(m n:Nd):aL (.vI [.i64,.i64,.i64] false) [.agg m.q,.agg n.q]=some (.bool (decide (m=n))):=by
 obtain⟨a,b,c⟩:=m;obtain⟨d,e,f⟩:=n;have:sU [.i64,.i64,.i64] (Nd.q ⟨a,b,c⟩) (Nd.q ⟨d,e,f⟩)=some (decide ((⟨a,b,c⟩:Nd)=⟨d,e,f⟩)):=by
  simp only [Nd.q,sU,and_self,if_true,Option.map_some,Nd.mk.injEq]
  congr 1
  rw[Bool.eq_iff_iff];simp only [xf,decide_eq_true_eq,Bool.and_true]
 show(sU [.i64,.i64,.i64] (Nd.q ⟨a,b,c⟩) (Nd.q ⟨d,e,f⟩)).map (fun r=>D.bool (r !=false))=_;rw[this];show some (D.bool (_ !=false))=_;rw[Bool.bne_false]
theorem Ch{l aa V:a0m}{a:Nd}(hp:l=V++a::aa):(fe l)[V.length]? =some a.q:=by
 unfold fe;rw[hp,List.map_append,xq (by rw[xm];exact xk _),xm,Nat.sub_self];rfl
theorem vX(l:a0m):(fe l).length=l.length:=xm _
theorem am8{l:a0m}(hl:l.length<=1000000000)(n:Nd):∀(aa V:a0m),l=V++aa->Rn F X 140 1 ([.sl (fe l),jD l.length,jD V.length]++n.q) (·=[.bool (decide (n∈aa))])
 |[],V,hp=>by
  have aW:l.length=V.length:=by rw[hp,xj]
  exact wr Y<|wn Y ai<|wt Y Y
 |a::aa,V,hp=>by
  have aW:l.length=V.length+(aa.length+1):=by rw[hp,xa];rfl
  have ih:=am8 hl n aa (V++[a]) (by rw[hp,a_];rfl);rw[xa] at ih;refine wr Y<|wy Y ai<|wo Y (aA (Ch hp) rfl)<|wg 1 Y<|d_ (ds:=[.agg a.q,.agg n.q]) rfl (bJ9 a n) (fun e=> ?_) (fun e=> ?_)
  ·exact wt Y (by rw[u_ (e▸xn)])
  ·refine wo Y oA<|b_ Y (ih.mono fun o h=> ?_);rw[h]
   congr 2
   exact decide_eq_decide.2 ⟨xo _,fun h=>(xG.1 h).elim (fun h=>absurd h.symm e) id⟩
theorem bk2{l:a0m}(hl:l.length<=1000000000)(n:Nd):Rn F X 140 0 ([.sl (fe l)]++n.q) (·=[.bool (decide (n∈l))]):=by
 exact wr Y<|wo Y (az (vX l))<|wj (am8 hl n l [] rfl)
theorem bi6(m n:Nd):Rn F X 141 0 (m.q++n.q) (·=[.bool (aC m n)]):=by
 obtain⟨a,b,c⟩:=m;obtain⟨d,e,f⟩:=n;refine wr Y ?_;have T:(a<d\/a=d/\(b<e\/b=e/\c<f))->[D.bool true]=[.bool (aC ⟨a,b,c⟩ ⟨d,e,f⟩)]:=fun h=>by unfold aC;rw[u_ h]
 have N: ¬(a<d\/a=d/\(b<e\/b=e/\c<f))->[D.bool false]=[.bool (aC ⟨a,b,c⟩ ⟨d,e,f⟩)]:=fun h=>by unfold aC;rw[f_ h]
 refine d_ (ds:=[.int .i64 a,.int .i64 d]) rfl gP (fun h1=> ?_) (fun h1=> ?_)
 ·refine d_ (ds:=[.int .i64 a,.int .i64 d]) rfl ai (fun h2=>wt Y (T ?_)) (fun h2=>wt Y (N ?_))<;>omega
 ·refine d_ (ds:=[.int .i64 b,.int .i64 e]) rfl gP (fun h2=> ?_) (fun h2=> ?_)
  ·refine d_ (ds:=[.int .i64 b,.int .i64 e]) rfl ai (fun h3=>wt Y (T ?_)) (fun h3=>wt Y (N ?_))<;>omega
  ·refine d_ (ds:=[.int .i64 c,.int .i64 f]) rfl ai (fun h3=>wt Y (T ?_)) (fun h3=>wt Y (N ?_))<;>omega
theorem GS{l:a0m}(hl:l.length<=1000000000)(n:Nd):aL (.app 3 24) [.sl (fe l),.sl [n.q]]=some (.sl (fe (l++[n]))):=by
 rw[gD (es:=3) (row:=n.q) rfl rfl (by rw[vX];omega) (by rw[vX];omega)];unfold fe;rw[List.map_append];rfl
theorem at3{l:a0m}(hl:l.length<=1000000)(n:Nd):∀(aa V out:a0m),l=V++aa->out.length<=V.length+1->Rn F X 142 2 ([.sl (fe out),.sl (fe l),jD l.length,jD V.length]++n.q) (·=[.sl (fe (out++aa))])
 |[],V,out,hp,ho=>by
  have aW:l.length=V.length:=by rw[hp,xj]
  exact wr Y<|wn Y ai<|wt Y (by rw[xj])
 |a::aa,V,out,hp,ho=>by
  have aW:l.length=V.length+(aa.length+1):=by rw[hp,xa];rfl
  have ih:=at3 hl n aa (V++[a]) (out++[a]) (by rw[hp,a_];rfl) (by rw[xa,xa];exact Nat.succ_le_succ ho);rw[xa,a_] at ih;exact wr Y<|wy Y ai<|wo Y (aA (Ch hp) rfl)<|wg 3 Y<|wo Y (GS a0B a)<|wo Y oA<|wj ih
theorem at4{l:a0m}(hl:l.length<=1000000)(n:Nd):∀(aa V:a0m),l=V++aa->Rn F X 142 1 ([.sl (fe V),.sl (fe l),jD l.length,jD V.length]++n.q) (·=[.sl (fe (V++tC n aa))])
 |[],V,hp=>by
  have aW:l.length=V.length:=by rw[hp,xj]
  exact wr Y<|wn Y ai<|wg 2 Y<|wo Y (GS a0B n)<|wt Y Y
 |a::aa,V,hp=>by
  have aW:l.length=V.length+(aa.length+1):=by rw[hp,xa];rfl
  have ls:=bi6 (X:=X) n a;refine wr Y<|wy Y ai<|wo Y (aA (Ch hp) rfl)<|wg 2 Y ?_;show Wp F X 142 _ _ (·=[.sl (fe (V++if aC n a then n::a::aa else a::tC n aa))]);cases h:aC n a with
  |true=>
   rw[h] at ls;have:=at3 (X:=X) hl n aa (V++[a]) (V++[n]++[a]) (by rw[hp,a_];rfl) a0C;rw[xa] at this;refine wL Y ls rfl<|wg 2 Y<|wo Y (GS a0B n)<|wg 2 Y<|wo Y (GS (by rw[xa];show _+1<=_;omega) a)<|wo Y oA<|b_ Y (this.mono fun o h=> ?_);rw[h,i_ Y,a_,a_];rfl
  |false=>
   rw[h] at ls;have ih:=at4 hl n aa (V++[a]) (by rw[hp,a_];rfl);rw[xa,a_] at ih;exact wL Y ls rfl<|wg 2 Y<|wo Y (GS a0B a)<|wo Y oA<|wj ih
theorem za{l:a0m}(hl:l.length<=1000000)(n:Nd):Rn F X 142 0 ([.sl (fe l)]++n.q) (·=[.sl (fe (ra l n))]):=by
 have h:=bk2 (X:=X) (l:=l) a0B n;refine wr Y<|wg 1 Y ?_;unfold ra;by_cases hm:n∈l
 ·rw[u_ hm] at h;rw[i_ hm];exact wL Y h rfl<|wt Y Y
 ·rw[f_ hm] at h;rw[j_ hm];exact wL Y h rfl<|wo Y (az (vX l))<|wj (at4 hl n l [] rfl)
end
section
variable{X:a0a}{ar:a0f}{x:Cx}
def Bd.us(ar:a0f)(x:Cx)(b:Bd)(uz:List Us):Bd:=b.j9 (uz.flatMap (rH ar x b.h))
theorem KC(b:Bd)(u v:List Us):(b.us ar x u).us ar x v=b.us ar x (u++v):=by
 unfold Bd.us;rw[P3,OK,List.flatMap_append]
theorem EC{b:Bd}(h:b.x x)(uz:List Us):(b.us ar x uz).x x:=h.j9 _
theorem Qq(hx:eM ar x):aL .ld [.ptr (rD x.f x.src x.ids x.rows) 37]=some (.ptr [.sl x.rows] 0):=by
 have e:(rD x.f x.src x.ids x.rows)[37]? =some (.ptr [.sl x.rows] 0):=by
  show((x.f.s++[.str x.src])++(x.ids++[.ptr [.sl x.rows] 0]))[37]? =_;rw[xq (by exact Nat.le_add_left 5 32),xq (by rw[hx.id];exact xk _),hx.id];rfl
 show((rD x.f x.src x.ids x.rows)[37]?).bind _=_;rw[e];rfl
theorem Rh(hx:eM ar x){i:Nat}{al:a0g}(aQ:ar[i]? =some al):∃us fs:a0b,x.rows[i]? =some [.sl (strs (aP 104 al.length)),.sl us,.sl fs]/\x.rows.length=ar.length:=by
 obtain⟨us,fs,h⟩:=hx.p.2 i al aQ;exact⟨us,fs,h,hx.p.1⟩
theorem OW{n:Nat}(hn:n<=3):aL (.app 1 16) [.sl [],.sl (strs (aP 104 n))]=some (.sl (strs (aP 104 n))):=
 Bb (rows:=[]) (fun row hr=>by obtain⟨s,_,rfl⟩:=xJ.1 hr;exact⟨rfl,rfl⟩) (by simp[strs,aP];omega) (by simp[strs,aP];omega)
theorem Qy{c:Nat}{n:Nat}(hn:0<n):aL (.B1 false) [.sl (strs (aP c n))]=some (.bool false):=by
 obtain⟨m,rfl⟩:∃m,n=m+1:=⟨n - 1,a0B⟩;rw[aP,List.range_succ_eq_map];rfl
theorem Q1(b:Bd)(u:Us):b.us ar x [u]=b.j9 (rH ar x b.h u):=by
 unfold Bd.us;rw[List.flatMap_cons,List.flatMap_nil,xj]
theorem bB2{v w:Nat}{ok:Bool}(h:[jD (w+0),.bool true]=[jD v,.bool ok]):w=v:=by
 have h2:=(D.int.inj (List.cons.inj h).1).2;omega
theorem En(hx:eM ar x){i j:Nat}{al:a0g}(aQ:ar[i]? =some al)(hj:j<al.length):hN ar i (nm 104 j)=⟨5,(i:Nat),(j:Nat)⟩:=by
 have h3:=hx.f.jC al (xu aQ);unfold hN gI;rw[aQ];show(⟨5,_,(((cw (aP 104 al.length) (nm 104 j)).getD 0:Nat):Int)⟩:Nd)=_;rw[Qu h3.2.1 hj];rfl
theorem bp4(hx:eM ar x)(hc:Iy x){b:Bd}(hb:b.x x){k:Nat}{n h:aq}{es:List Fl.Ex}{th el:a0p}(hk:Ey k n h es th el)(hr:Jl ar x (.mk k n h es th el)){sl:a0b}{ln j:Nat}{Q:a0d->Prop}
 (K:Rn F X 128 2 ([.sl sl,jD ln,jD j,.sl (Ex.ss es),jD es.length,jD 0]++(b.us ar x (c8 (.mk k n h es th el) n k)).d++[bD k,.str n,.str h,.sl (St.ss th),.sl (St.ss el)]) Q):
 Wp F X 128 aW0 ([.sl sl,jD ln,jD j]++b.d++[.ptr [bD k,.str n,.str h,.sl (Ex.ss es),.sl (St.ss th),.sl (St.ss el)] 0,bD k,.str n,.str h,.sl (Ex.ss es),.sl (St.ss th),.sl (St.ss el)]) Q:=by
 have hv:=Y2 (X:=X) hc hb n;have fk:=hk.k1;have gJ:=hk.vl;obtain⟨r1,r2,r3⟩:=hr;have next:∀{v:Nat} {ok:Bool},oO 0 (cw x.vn n)=[jD v,.bool ok]->Wp F X 128 (.br (.bin .eql 0) [cd 11,.int .u8 1] bg0 aW1) (([.sl sl,jD ln,jD j]++b.d++[.ptr [bD k,.str n,.str h,.sl (Ex.ss es),.sl (St.ss th),.sl (St.ss el)] 0,bD k,.str n,.str h,.sl (Ex.ss es),.sl (St.ss th),.sl (St.ss el)])++([.int .u8 1,jD x.i]++[jD v,.bool ok]++b.d)) Q:=by
  intro v ok hp;have hw:k=1\/k=2\/k=3\/k=9->wN x n=⟨1,(x.i:Nat),(v:Nat)⟩/\rN x n=[⟨1,(x.i:Nat),(v:Nat)⟩]:=fun hk=>by
   obtain⟨w,hw⟩:=r1 hk;rw[hw] at hp;have:w=v:=bB2 hp;subst this;unfold wN rN;rw[hw];exact⟨rfl,rfl⟩
  have rw2:k=2\/k=3->b.us ar x [.rd n,.wr n]=(b.jl (⟨1,(x.i:Nat),(v:Nat)⟩,b.h)).jl (b.h,⟨1,(x.i:Nat),(v:Nat)⟩):=fun hk=>by
   have hw:=hw a0B;unfold Bd.us;rw[List.flatMap_cons,List.flatMap_cons,List.flatMap_nil,xj];simp only [rH,hw.1,hw.2];rfl
  have two:k=2\/k=3->Wp F X 128 bf9 (([.sl sl,jD ln,jD j]++b.d++[.ptr [bD k,.str n,.str h,.sl (Ex.ss es),.sl (St.ss th),.sl (St.ss el)] 0,bD k,.str n,.str h,.sl (Ex.ss es),.sl (St.ss th),.sl (St.ss el)])++([.int .u8 1,jD x.i]++[jD v,.bool ok]++b.d)) Q:=fun hk=>by
   have K:Rn F X 128 2 ([.sl sl,jD ln,jD j,.sl (Ex.ss es),jD es.length,jD 0]++(b.us ar x [.rd n,.wr n]).d++[bD k,.str n,.str h,.sl (St.ss th),.sl (St.ss el)]) Q:=by
    rcases hk with rfl|rfl<;>exact K
   rw[rw2 hk] at K;dsimp only [c_,n_];refine wl Y (Gn (b:=b) ⟨1,(x.i:Nat),(v:Nat)⟩) rfl ?_;dsimp only [c_,n_];refine wl Y (JF (b:=b.jl (⟨1,(x.i:Nat),(v:Nat)⟩,b.h)) ⟨1,(x.i:Nat),(v:Nat)⟩) rfl ?_;dsimp only [c_,n_];exact wo Y (az (gF _))<|wj K
  dsimp only [c_,n_] at two⊢;refine d_ (ds:=[bD k,bD 1]) rfl ay (fun e=> ?_) (fun e1=> ?_)
  ·obtain rfl:k=1:=a0B
   have hw:=(hw (.inl Y)).1;refine wl Y (JF (b:=b) ⟨1,(x.i:Nat),(v:Nat)⟩) rfl ?_;dsimp only [c_,n_];refine wo Y (az (gF _))<|b_ Y ?_;have:b.us ar x [.wr n]=b.jl (b.h,⟨1,(x.i:Nat),(v:Nat)⟩):=by rw[<-hw];rfl
   rw[show c8 _ n 1=[.wr n] from Y,this] at K;exact K
  refine d_ (ds:=[bD k,bD 2]) rfl ay (fun e=>two a0B) (fun e2=> ?_);refine d_ (ds:=[bD k,bD 3]) rfl ay (fun e=>two a0B) (fun e3=> ?_);clear two;refine d_ (ds:=[bD k,bD 9]) rfl ay (fun e=> ?_) (fun e9=> ?_)
  ·obtain rfl:k=9:=a0B
   have hw:=hw a0B;have:b.us ar x [.rd n,.wr n,.dk]=((b.jl (⟨1,(x.i:Nat),(v:Nat)⟩,b.h)).jl (b.h,⟨1,(x.i:Nat),(v:Nat)⟩)).j9 [(⟨2,(x.i:Nat),0⟩,b.h),(b.h,⟨2,(x.i:Nat),0⟩)]:=by
    unfold Bd.us;rw[List.flatMap_cons,List.flatMap_cons,List.flatMap_cons,List.flatMap_nil,xj];simp only [rH,hw.1,hw.2];rfl
   rw[show c8 _ n 9=[.rd n,.wr n,.dk] from Y,this] at K;refine wl Y (Gn (b:=b) ⟨1,(x.i:Nat),(v:Nat)⟩) rfl ?_;dsimp only [c_,n_];refine wl Y (JF (b:=b.jl (⟨1,(x.i:Nat),(v:Nat)⟩,b.h)) ⟨1,(x.i:Nat),(v:Nat)⟩) rfl ?_;dsimp only [c_,n_];have UN:b.c=(x.i:Nat):=by obtain⟨_,_,_,rfl⟩:=hb;rfl
   have hd:=XN (X:=X) (b:=(b.jl (⟨1,(x.i:Nat),(v:Nat)⟩,b.h)).jl (b.h,⟨1,(x.i:Nat),(v:Nat)⟩));rw[show((b.jl (⟨1,(x.i:Nat),(v:Nat)⟩,b.h)).jl (b.h,⟨1,(x.i:Nat),(v:Nat)⟩)).c=(x.i:Nat) from UN] at hd;refine wl Y hd rfl ?_;dsimp only [c_,n_];exact wo Y (az (gF _))<|wj K
  refine d_ (ds:=[bD k,bD 8]) rfl ay (fun e=> ?_) (fun e8=> ?_)
  ·obtain rfl:k=8:=a0B
   have UN:b.c=(x.i:Nat):=by obtain⟨_,_,_,rfl⟩:=hb;rfl
   have hd:=XN (X:=X) (b:=b);rw[UN] at hd;rw[show c8 _ n 8=[.dk] from Y,Q1] at K;refine wl Y hd rfl ?_;dsimp only [c_,n_];exact wo Y (az (gF _))<|wj K
  refine d_ (ds:=[bD k,bD 6]) rfl ay (fun e=> ?_) (fun e6=> ?_)
  ·obtain rfl:k=6:=a0B
   obtain⟨i,al,q,aQ,rfl,hq,rfl⟩:=r2 rfl;have h3:=hx.f.jC al (xu aQ);have hi:=(xe.1 aQ).1;have hn:=hx.f.n;obtain⟨us,fs,fb,ot⟩:=Rh hx aQ;have Je:=Qq hx;have yg:cN x [(97+i).toUInt8]=i:=by unfold cN;rw[JQ hx.f hi];rfl
   rw[show c8 (.mk 6 _ _ es th el) _ 6=[.sn (.mk 6 [(97+i).toUInt8] (nm 104 q) es th el)] from Y,Q1] at K;have ao:rH ar x b.h (.sn (.mk 6 [(97+i).toUInt8] (nm 104 q) es th el))=tR b.h ⟨6,(x.i:Nat),(i:Nat)⟩ ⟨5,(i:Nat),(q:Nat)⟩:=by
    show tR b.h ⟨6,_,(cN x [(97+i).toUInt8]:Nat)⟩ (hN ar (cN x [(97+i).toUInt8]) (nm 104 q))=_;rw[yg,En hx aQ hq]
   rw[ao] at K;have UL:Rn F X 118 0 [jD x.f.comps.length,.ptr [nT x.f x.src x.ids x.rows] 0,.ptr [.str [(97+i).toUInt8]] 0] (·=[jD i,.bool true]):=by
    refine wr Y ?_;have:=Zu (X:=X) (src:=x.src) (ids:=x.ids) (rows:=x.rows) hc.nc [(97+i).toUInt8] x.f.comps [] rfl;rw[JQ hx.f hi] at this;exact b_ Y this
   obtain⟨o,l,E,rfl⟩:=hb;refine wg 4 Y<|e_ (d:= .sl (x.f.comps.map Cm.s)) rfl rfl rfl<|wo Y (az (xm _))<|wg 1 Y<|e_ (d:= .ptr [nT x.f x.src x.ids x.rows] 0) rfl rfl rfl<|e_ (d:= .ptr [.str [(97+i).toUInt8]] 0) rfl rfl rfl ?_;dsimp only [c_,n_];refine wL Y UL rfl ?_;dsimp only [c_,n_];refine wg 2 Y<|e_ (d:= .ptr (rD x.f x.src x.ids x.rows) 37) rfl rfl rfl<|e_ (d:= .ptr [.sl x.rows] 0) rfl Je rfl ?_;dsimp only [c_,n_];refine wg 1 Y<|Wp.dF (ds:=[jD i,jD 0]) rfl ai a0B<|wg 2 Y<|e_ (d:= .sl x.rows) rfl rfl rfl<|wo Y (az ot) ?_;dsimp only [c_,n_];refine Wp.dF (ds:=[jD i,jD ar.length]) rfl fp a0B<|wg 2 Y<|e_ (d:= .sl x.rows) rfl rfl rfl<|wo Y (aA fb rfl)<|wg 1 Y ?_;dsimp only [c_,n_];refine e_ (d:= .sl (strs (aP 104 al.length))) rfl rfl rfl<|Wp.rG Y (Qy a0B)<|e_ (d:= .sl []) rfl rfl rfl<|wo Y (OW h3.2.1)<|wg 1 Y ?_;dsimp only [c_,n_];refine wL Y (Du h3.2.1 hq) rfl<|wg 1 Y ?_;dsimp only [c_,n_];refine wL Y (V7 (b:=bx x o l E) ⟨6,(x.i:Nat),(i:Nat)⟩ ⟨5,(i:Nat),(q:Nat)⟩) rfl ?_;dsimp only [c_,n_];exact wo Y (az (gF _))<|wj K
  refine d_ (ds:=[bD k,bD 7]) rfl ay (fun e=> ?_) (fun e7=> ?_)
  ·obtain rfl:k=7:=a0B
   obtain⟨al,q,aQ,hq,rfl⟩:=r3 rfl;have h3:=hx.f.jC al (xu aQ);have hi:=(xe.1 aQ).1;obtain⟨us,fs,fb,ot⟩:=Rh hx aQ;have Je:=Qq hx;rw[show c8 (.mk 7 _ _ es th el) _ 7=[.tm (.mk 7 n (nm 104 q) es th el)] from Y,Q1] at K;have ao:rH ar x b.h (.tm (.mk 7 n (nm 104 q) es th el))=tR b.h ⟨3,(x.i:Nat),0⟩ ⟨5,(x.i:Nat),(q:Nat)⟩:=by
    show tR b.h ⟨3,_,0⟩ (hN ar x.i (nm 104 q))=_;rw[En hx aQ hq]
   rw[ao] at K;obtain⟨o,l,E,rfl⟩:=hb;refine wg 2 Y<|e_ (d:= .ptr (rD x.f x.src x.ids x.rows) 37) rfl rfl rfl<|e_ (d:= .ptr [.sl x.rows] 0) rfl Je rfl ?_;dsimp only [c_,n_];refine wg 1 Y<|Wp.dF (ds:=[jD x.i,jD 0]) rfl ai a0B<|wg 2 Y<|e_ (d:= .sl x.rows) rfl rfl rfl<|wo Y (az ot) ?_;dsimp only [c_,n_];refine Wp.dF (ds:=[jD x.i,jD ar.length]) rfl fp a0B<|wg 2 Y<|e_ (d:= .sl x.rows) rfl rfl rfl<|wo Y (aA fb rfl)<|wg 1 Y ?_;dsimp only [c_,n_];refine e_ (d:= .sl (strs (aP 104 al.length))) rfl rfl rfl<|Wp.rG Y (Qy a0B)<|e_ (d:= .sl []) rfl rfl rfl<|wo Y (OW h3.2.1)<|wg 1 Y ?_;dsimp only [c_,n_];refine wL Y (Du h3.2.1 hq) rfl<|wg 1 Y ?_;dsimp only [c_,n_];refine wL Y (V7 (b:=bx x o l E) ⟨3,(x.i:Nat),0⟩ ⟨5,(x.i:Nat),(q:Nat)⟩) rfl ?_;dsimp only [c_,n_];exact wo Y (az (gF _))<|wj K
  have hk:k=4\/k=5\/k=10:=a0B
  have:c8 (.mk k n h es th el) n k=[]:=by rcases hk with rfl|rfl|rfl<;>rfl
  rw[this] at K;exact wo Y (az (gF _))<|wj K
 cases hp:cw x.vn n with
 |none=>
  rw[hp] at hv;refine wL Y hv rfl ?_;exact next (v:=0) (ok:=false) (by rw[hp];rfl)
 |some v=>
  rw[hp] at hv;refine wL Y hv rfl ?_;exact next (v:=v) (ok:=true) (by rw[hp];rfl)
theorem aI2(hx:eM ar x)(hc:Iy x){l:a0p}(hl:l.length<=12)(h:∀s∈l,dM (fun s=>jR s/\Jl ar x s) s):∀{b:Bd},b.x x->Rn F X 128 0 (b.d++[.sl (St.ss l)]) (·=(b.us ar x (St.fm l)).d):=by
 revert hl
 refine dM.fx (P:=fun l=>l.length<=12->∀{b:Bd},b.x x->Rn F X 128 0 (b.d++[.sl (St.ss l)]) (·=(b.us ar x (St.fm l)).d)) ?_ h;clear h l;intro l h hl b hb;have loop:∀(aa V:a0p),l=V++aa->∀{b:Bd},b.x x->Rn F X 128 1 ([.sl (St.ss l),jD l.length,jD V.length]++b.d) (·=(b.us ar x (St.fm aa)).d):=by
  intro aa
  induction aa with
  |nil=>
   intro V hp b hb;rw[xj] at hp;subst hp;exact wr Y<|Wp.dF (ds:=[jD l.length,jD l.length]) rfl ai a0B<|wt Y Y
  |cons a aa cX=>
   intro V hp b hb;have aD:l.length=V.length+(aa.length+1):=by rw[hp,xa];rfl
   have ao:(St.ss l)[V.length]? =some (St.s a):=by rw[hp];exact vV _ _ _
   obtain⟨⟨ha,hr⟩,hs⟩:=h a (by rw[hp];simp);have next:=fun{b':Bd} (fY:b'.x x)=>cX (V++[a]) (by rw[hp,a_];rfl) fY
   rw[xa] at next;obtain⟨k,n,hd,es,th,el⟩:=a;have ha:Ey k n hd es th el:=ha;obtain⟨df,cL⟩:=hs;have fX:es.length<=3:=by have:=ha.ln;omega
   have Bt:∀(bX bj:List Fl.Ex),es=bj++bX->∀{b:Bd},b.x x->Rn F X 128 2 ([.sl (St.ss l),jD l.length,jD V.length,.sl (Ex.ss es),jD es.length,jD bj.length]++b.d++[bD k,.str n,.str hd,.sl (St.ss th),.sl (St.ss el)]) (·=(b.us ar x (Ex.fm bX++(St.fm th++(St.fm el++St.fm aa)))).d):=by
    intro bX
    induction bX with
    |nil=>
     intro bj aO b hb;rw[xj] at aO;subst aO;refine wr Y<|Wp.dF (ds:=[jD es.length,jD es.length]) rfl ai a0B<|wg 1 Y ?_;dsimp only [c_,n_];refine wL Y (df ha.tl hb) rfl<|wg 1 Y ?_;dsimp only [c_,n_];refine wL Y (cL ha.ll (EC (ar:=ar) hb (St.fm th))) rfl ?_;dsimp only [c_,n_];refine wo Y oA<|b_ Y ?_;have:=next (EC (ar:=ar) (EC (ar:=ar) hb (St.fm th)) (St.fm el));rw[show((b.us ar x (St.fm th)).us ar x (St.fm el)).us ar x (St.fm aa)=b.us ar x (St.fm th++(St.fm el++St.fm aa)) by rw[KC,KC]] at this;exact this
    |cons e bX dT=>
     intro bj aO b hb;have s8:es.length=bj.length+(bX.length+1):=by rw[aO,xa];rfl
     have ji:(Ex.ss es)[bj.length]? =some e.s:=by rw[aO];exact qF _ _ _
     have has:e.s.length=4:=by obtain⟨_,_,_,_⟩:=e;rfl
     have he:=(ha.ex e (by rw[aO];simp)).1;have c:=aS4 (X:=X) hc he hb;have ze:=dT (bj++[e]) (by rw[aO,a_];rfl) (EC (ar:=ar) hb (Ex.us e));rw[KC,xa] at ze;have e3:b.j9 (yl x b.h e)=b.us ar x (Ex.us e):=by unfold Bd.us;rw[ZN ar x b.h he]
     rw[e3] at c;refine wr Y<|Wp.dO (ds:=[jD bj.length,jD es.length]) rfl ai a0B<|wo Y (aA ji has) ?_;obtain⟨Fp,Ee,n',args'⟩:=e;refine Wp.aV (l:=[bD Fp,.str Ee,Fl.iD n',.sl (Ex.ss args')]) rfl rfl rfl<|wg 1 Y ?_;dsimp only [c_,n_];refine wL Y c rfl ?_;dsimp only [c_,n_];refine wo Y oA<|b_ Y ?_;rw[show Ex.fm (⟨Fp,Ee,n',args'⟩::bX)++(St.fm th++(St.fm el++St.fm aa))=Ex.us ⟨Fp,Ee,n',args'⟩++(Ex.fm bX++(St.fm th++(St.fm el++St.fm aa))) from a_ ..];exact ze
   refine wr Y<|Wp.dO (ds:=[jD V.length,jD l.length]) rfl ai a0B<|wo Y (aA ao Y)<|Wp.aV (l:=[bD k,.str n,.str hd,.sl (Ex.ss es),.sl (St.ss th),.sl (St.ss el)]) rfl rfl rfl<|wg 1 Y ?_;refine bp4 hx hc hb ha hr ?_;have:=Bt es [] rfl (EC (ar:=ar) hb (c8 (.mk k n hd es th el) n k));rw[KC] at this;have e4:St.fm (⟨k,n,hd,es,th,el⟩::aa)=c8 (.mk k n hd es th el) n k++(Ex.fm es++(St.fm th++(St.fm el++St.fm aa))):=by
    simp only [St.fm,St.us,a_]
   rw[e4];exact this
 refine wr Y<|wo Y (az (mC _))<|b_ Y ?_;exact loop l [] rfl hb
end
end Go.Proofs.YthicpeihkkokmaaGreatDoor
