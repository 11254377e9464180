/- A verified evaluator of Go functions. -/
import Derived.Test.YtnjdjocokegphaaGreatDoorX7
import Derived.Test.YtnjdjocokegphaaGreatDoorX6
import Derived.DeepKeys3
set_option linter.unusedVariables false
set_option linter.unusedSimpArgs false
namespace Go.Ex
open Go.RowKit
noncomputable section
theorem JL{D D':Nat→Prop}{g0:Gt}:∀{tr:List Tr},(∀x∈tr,D x.i↔D' x.i)→gv D tr g0=gv D' tr g0
 |[],_=>rfl
 |x::tr,h=>by
  have ih:=JL (g0:=g0) (tr:=tr) (fun y hy=>h y (xo _ hy));rw[gv,gv,ih];by_cases hD:D x.i
  ·rw[if_pos hD,if_pos ((h x xn).1 hD)]
  ·rw[if_neg hD,if_neg (fun e=>hD ((h x xn).2 e))]
theorem aY9{D:Nat→Prop}{g0:Gt}{x:Tr}{tr:List Tr}(h:D x.i):gv D (x::tr) g0=gM (gv D tr g0) x.dst x.v:=by rw[gv,if_pos h]
theorem VJ{D:Nat→Prop}{g0:Gt}{x:Tr}{tr:List Tr}(h: ¬D x.i):gv D (x::tr) g0=gv D tr g0:=by rw[gv,if_neg h]
def PN(A:AW)(bw:List gK):Prop:=(∀e∈bw,∀N b,e.nb=some (N,b)→N<A.next)∧∀e∈bw,∀e'∈bw,∀N b b',e.nb=some (N,b)→e'.nb=some (N,b')→e.i=e'.i
theorem On{ops:List Oper}{D:Nat→Prop}:∀{tr:List Tr},mH ops tr→(∃x∈tr,¬D x.i)→∃x∈tr,¬D x.i∧∃o,ops[x.i]? =some o∧∀e∈o.after.toList,Region.binds .any e=true→D e.on
 |[],_,⟨x,hx,_⟩=>by cases hx
 |y::tr,⟨h1,h2,o,ho,hd,he⟩,⟨x,hx,hn⟩=>by
  by_cases En:∃z∈tr,¬D z.i
  ·obtain⟨z,hz,h⟩:=On h1 En;exact⟨z,xo _ hz,h⟩
  ·have all:∀z∈tr,D z.i:=fun z hz=>Classical.byContradiction fun h=>En ⟨z,hz,h⟩
   cases hx with
   |head=>
    refine⟨y,xn,hn,o,ho,fun e NH hb=> ?_⟩;obtain⟨z,hz,Be⟩:=he e NH hb;exact Be▸all z hz
   |tail _ hx=>exact absurd (all x hx) hn
theorem O7{E:av}{ops:List Oper}:∀(L:List Nat) (bC e0:Nat),vX E ops L bC (some e0)=true→bit bC e0=true→∀i∈L,∃e,(e=e0∨e∈L)∧e≠i∧bit (je ops i) e=true
 |[],_,_,_,_,i,hi=>by cases hi
 |k::L,bC,e0,h,pU,i,hi=>by
  have h':AZ E ops (vX E ops L) k bC (some e0)=true:=h;clear h;unfold AZ at h';split at h'
  ·cases h'
  ·rename_i o ho;simp only [xf,Bool.not_eq_true'] at h';obtain⟨⟨⟨hk,eC⟩,hb⟩,nv⟩:=h';have bq:e0≠k:=fun e=>by rw[e] at pU;rw[pU] at hk;cases hk
   cases hi with
   |head=>exact⟨e0,.inl rfl,bq,hb⟩
   |tail _ hi=>
    have Hp:∀q,bit (Nat.lor bC (Nat.pow 2 k)) q=(bit bC q||decide (k=q)):=fun q=>by
     rw[tD,tD];show(bC|||2^k).testBit q=_;rw[Nat.testBit_or,Nat.testBit_two_pow]
    cases iL:Nat.ble 2 (fC E o.op) with
    |true=>
     rw[iL,ek] at nv;obtain⟨e,h1,h2,h3⟩:=O7 L _ k nv (by rw[Hp];simp) i hi;refine⟨e,.inr ?_,h2,h3⟩;rcases h1 with rfl|h1
     ·exact xn
     ·exact xo _ h1
    |false=>
     rw[iL,gC] at nv;obtain⟨e,h1,h2,h3⟩:=O7 L _ e0 nv (by rw[Hp,pU];rfl) i hi;refine⟨e,?_,h2,h3⟩;rcases h1 with h1|h1
     ·exact .inl h1
     ·exact .inr (xo _ h1)
section
variable{P:Program}{E:av}(ok:E.Ok P){sq:List (Nat×List xO)}(aY:E.Seq P sq){w0:World}{n:Nat}{ops:List Oper}(hs:Dd ops)(ka:∀o∈ops,∀d,o.dst=some d→d<n){g0:Gt}{β0:ah}{A0:AW}{ds:List Deferred}{ro:Option Nat}
 {call:cL→List xM→AW→aZ xM} (hc:fN P E call)
theorem bs0{D:Nat→Prop}{β ak:ah}{A A':AW}{bw:List gK}{tr:List Tr}{a:Act}{w w':World}(ka:∀o∈ops,∀d,o.dst=some d→d<n)(j:PJ w0 E n ops g0 β0 A0 ds D β A bw tr a w)
 {i:Nat} {o:Oper} (ho:ops[i]? =some o) (ow:∀x∈tr,x.i≠i) (hr:∀ed∈o.after.toList,Region.binds .any ed=true→D ed.on) {v v':xM} (hv:ai ak v v') (bU:Inv w0 E.G ak A' w') (lM:β.grow ak A.next) (hn:A.next≤A'.next):
 PJ w0 E n ops g0 β0 A0 ds (fun x=>D x∨x=i) ak A' (lT (fun e=>not (bit (je ops i) e.i)) bw) (⟨i,o.dst,v⟩::tr) (a.put o.dst v') w':=by
 have hnD: ¬D i:=fun h=>by obtain⟨x,hx,iJ⟩:=j.only i h;exact ow x hx iJ
 have aR:=j.inv.fY lM;refine⟨fun k ok hk hd ed Ic hb=> ?_,fun x hx o' jb hk=> ?_,fun x hx jc=> ?_,fun k hk=> ?_,?_,bU,fun e he bq N ao rk=> ?_,ah.iB j.grow lM j.dh,xH j.dh hn,?_⟩
 ·rcases hd with hd|hd
  ·exact .inl (j.rB k ok hk hd ed Ic hb)
  ·subst hd;rw[ho] at hk;cases hk;exact .inl (hr ed Ic hb)
 ·cases hx with
  |head=>exact .inr rfl
  |tail _ hx=>exact .inl (j.TK x hx o' jb hk)
 ·cases hx with
  |head=>exact absurd (.inr rfl) jc
  |tail _ hx=>
   obtain⟨e,he,wB⟩:=j.un x hx (fun h=>jc (.inl h));refine⟨e,?_,wB⟩;rw[wS,List.mem_filter];refine⟨he,?_⟩;cases hb:bit (je ops i) e.i with
   |false=>rfl
   |true=>
    rcases EP j.rB ho hr hb with h1|h1
    ·exact absurd (.inl (wB▸h1)) jc
    ·exact absurd (wB.symm.trans h1) (ow x hx)
 ·rcases hk with hk|hk
  ·obtain⟨x,hx,iJ⟩:=j.only k hk;exact⟨x,xo _ hx,iJ⟩
  ·exact⟨_,xn,hk.symm⟩
 ·rw[aY9 (x:=⟨i,o.dst,v⟩) (.inr rfl),JL (D':=D) (fun x hx=>⟨fun h=>h.resolve_right (ow x hx),.inl⟩)];exact(j.frame.mono aR).gM (fun d hd=>ka o (xu ho) d hd) hv
 ·rw[wS,List.mem_filter] at he;obtain⟨h1,h2,h3⟩:=j.fresh e he.1 (fun h=>bq (.inl h)) N ao rk;exact⟨by rw[lM.f N h2];exact h1,xK h2 hn,h3⟩
 ·cases o.dst<;>exact j.defers
theorem bv3{D:Nat→Prop}{β:ah}{A A':AW}{bw:List gK}{tr:List Tr}{a:Act}{w:World}(j:PJ w0 E n ops g0 β0 A0 ds D β A bw tr a w)
 {i:Nat} {o:Oper} (hk:fC E o.op≤1) (ho:ops[i]? =some o) (ow:∀x∈tr,x.i≠i) {e:gK} (wB:e.i=i) {v:xM} (hA:A'=A∨(∃ao,r7 ao∧A'=A.add ao)∨∃r,(∀nd∈r,nd∈A.tape)∧A'=A.pop r) (rk:∀N b,e.nb=some (N,b)→N=A.next∧A.next<A'.next):
 PJ w0 E n ops g0 β0 A0 ds D β A' (e::bw) (⟨i,o.dst,v⟩::tr) a w:=by
 have hnD: ¬D i:=fun h=>by obtain⟨x,hx,iJ⟩:=j.only i h;exact ow x hx iJ
 have hn:A.next≤A'.next:=by
  rcases hA with rfl|⟨ao,_,rfl⟩|⟨r,_,rfl⟩
  ·exact xk _
  ·exact Nat.le_succ _
  ·exact xk _
 have Bq:β A.next=none:=by
  cases hc:β A.next with
  |none=>rfl
  |some l=>exact absurd (j.inv.gU _ l hc) (Nat.lt_irrefl _)
 refine⟨j.rB,fun x hx o' jb bN=> ?_,fun x hx jc=> ?_,fun k bN=> ?_,?_,?_,fun e' fk bq N ao Hi=> ?_,j.grow,xH j.dh hn,j.defers⟩
 ·cases hx with
  |head=>have gz:ops[i]? =some o':=jb;rw[ho] at gz;cases gz;omega
  |tail _ hx=>exact j.TK x hx o' jb bN
 ·cases hx with
  |head=>exact⟨e,xn,wB⟩
  |tail _ hx=>
   obtain⟨e',fk,h⟩:=j.un x hx jc;exact⟨e',xo _ fk,h⟩
 ·obtain⟨x,hx,iJ⟩:=j.only k bN;exact⟨x,xo _ hx,iJ⟩
 ·rw[VJ (x:=⟨i,o.dst,v⟩) hnD];exact j.frame
 ·rcases hA with rfl|⟨ao,hp,rfl⟩|⟨r,hr,rfl⟩
  ·exact j.inv
  ·exact j.inv.Xy ao hp
  ·exact j.inv.pop hr
 ·cases fk with
  |head=>
   obtain⟨rfl,h2⟩:=rk N ao Hi;exact⟨Bq,h2,j.dh⟩
  |tail _ fk=>
   obtain⟨h1,h2,h3⟩:=j.fresh e' fk bq N ao Hi;exact⟨h1,xK h2 hn,h3⟩
def rT(N:Nat)(listed:Array Bool):Nat:=((List.range N).filter fun k=> !listed.getD k false).length
theorem zI{N:Nat}{listed:Array Bool}{i:Nat}(hi:i<N)(aU:listed.size=N)(hl:listed.getD i false=false):rT N (listed.setIfInBounds i true)<rT N listed:=by
 unfold rT;have:(List.range N).filter (fun k=> !(listed.setIfInBounds i true).getD k false)=((List.range N).filter fun k=> !listed.getD k false).filter (fun k=>decide (k≠i)):=by
  rw[List.filter_filter];apply List.filter_congr;intro k _;by_cases hk:k=i
  ·subst hk;have:(listed.setIfInBounds k true).getD k false=true:=by simp[aU,hi]
   simp[this]
  ·rw[getD_set_ne false (Ne.symm hk)];simp[hk]
 rw[this,List.length_filter_lt_length_iff_exists];exact⟨i,by simp[hi];simpa using hl,by simp⟩
theorem JY{listed:Array Bool}{i:Nat}(hi:i<listed.size):(fun k=>(listed.setIfInBounds i true).getD k false=true)=(fun k=>listed.getD k false=true∨k=i):=by
 funext k
 apply propext;by_cases hk:k=i
 ·subst hk;simp[hi]
 ·rw[getD_set_ne false (Ne.symm hk)];simp[hk]
end
section
variable{P:Program}{E:av}(ok:E.Ok P){sq:List (Nat×List xO)}(aY:E.Seq P sq){w0:World}{n:Nat}{ops:List Oper}(hs:Dd ops)(ka:∀o∈ops,∀d,o.dst=some d→d<n){g0:Gt}{β0:ah}{A0:AW}{ds:List Deferred}{ro:Option Nat}
 {call:cL→List xM→AW→aZ xM} (hc:fN P E call)
theorem IR{listed:Array Bool}{i:Nat}{o:Oper}(ho:ops[i]? =some o)(aU:listed.size=ops.length)(hn: ¬listed.getD i false=true)(hr:∀e∈o.after.toList,Region.binds .any e=true→listed.getD e.on false=true):i∈Region.ready .any ⟨ops⟩ listed:=by
 rw[mem_ready];have hi:i<listed.size:=by rw[aU];exact(xe.1 ho).1
 refine⟨?_,o,by simpa using ho,fun e he hb=>hr e (by simpa using he) hb⟩;have h2:listed.getD i false=false:=by simpa using hn
 simp[hi] at h2⊢;exact h2
theorem BO{listed:Array Bool}{i:Nat}(aU:listed.size=ops.length)(h:i∈Region.ready .any ⟨ops⟩ listed):∃o,ops[i]? =some o∧ ¬listed.getD i false=true∧∀e∈o.after.toList,Region.binds .any e=true→listed.getD e.on false=true:=by
 rw[mem_ready] at h;obtain⟨h1,o,ho,h2⟩:=h;have jb:ops[i]? =some o:=by simpa using ho
 have hi:i<listed.size:=by rw[aU];exact(xe.1 jb).1
 refine⟨o,jb,?_,fun e he hb=>h2 e (by simpa using he) hb⟩;simp[hi] at h1⊢;exact h1
theorem bd1{A A':AW}{g:Gt}{op:Op}{v:xM}(hk:fC E op=1)(h:aC E sq A g op= .val v A'):∃ao,r7 ao∧A'=A.add ao:=by
 cases hp:pd op with
 |true=>cases op<;>simp only [fC,pd] at hk hp<;>first|(cases hp;done)|(cases hk;done)
 |false=>
  cases op<;>simp only [fC,hp] at hk<;>try(cases hk;done)
  case convert s d x=>split at hk<;>cases hk
  case alloc t=>
   simp only [aC] at h;have h:=lS h;unfold yi at h;split at h
   ·replace h:=aB h;rcases h with⟨_,h⟩|⟨_,h⟩<;>cases h
    exact⟨_,(fun c h=>by cases h),rfl⟩
   ·cases h
  case box t x=>
   simp only [aC] at h;have h:=lS h;unfold yZ at h;split at h<;>cases h
   exact⟨_,(fun c h=>by cases h),rfl⟩
  case buildSlice t len ps=>
   obtain⟨ps⟩:=ps;simp only [aC] at h;have h:=lS h;unfold wP at h;split at h
   ·split at h
    ·replace h:=aB h;rcases h with⟨_,h⟩|⟨_,h⟩
     ·split at h<;>cases h
      exact⟨_,(fun c h=>by cases h),rfl⟩
     ·cases h
    ·cases h
   ·cases h
  case makeSlice t x y=>
   simp only [aC] at h;have h:=lS h;unfold wQ at h;split at h
   ·split at h
    ·replace h:=aB h;rcases h with⟨_,h⟩|⟨_,h⟩<;>cases h
     exact⟨_,(fun c h=>by cases h),rfl⟩
    ·cases h
   ·cases h
  case call c=>
   obtain⟨u9,args,tys⟩:=c;cases u9<;>simp only [fC,pd] at hk<;>try(cases hk;done)
   rename_i b;cases b<;>simp only [fC,pd] at hk<;>cases hk
theorem OL{ops:List Oper}:∀(L:List Nat) (bC:Nat) (jk:Option Nat),vX E ops L bC jk=true→∀i∈L,bit bC i=false
 |[],_,_,_,i,hi=>by cases hi
 |k::L,bC,jk,h,i,hi=>by
  have h':AZ E ops (vX E ops L) k bC jk=true:=h;clear h;unfold AZ at h';split at h'
  ·cases h'
  ·rename_i o ho;simp only [xf,Bool.not_eq_true'] at h';obtain⟨⟨⟨hk,_⟩,_⟩,nv⟩:=h';cases hi with
   |head=>exact hk
   |tail _ hi=>
    have:=OL L _ _ nv i hi;rw[tD] at this⊢;have h2:(bC|||2^k).testBit i=false:=this;rw[Nat.testBit_or,Bool.or_eq_false_iff] at h2;exact h2.1
include ok aY hs ka in
theorem bd5{bw:List gK}{g:Gt}{A:AW}{tr:List Tr}{res:List Tr×AW}(h:Qm E sq bw g A tr=some res)(hw:mH ops tr)(o6:∀e∈bw,PE E sq β0.d ops g0 tr e)(eR:PN A bw)(fE:∀k o,ops[k]? =some o→∃x∈tr,x.i=k)
 (Q:Exit→Act→World→Prop) (hQ:∀β a w,bX β n (gv (fun _=>True) res.1 g0) a.tmps→Inv w0 E.G β res.2 w→β0.grow β A0.next→A0.next≤res.2.next→a.defers=ds→Q .normal a w) (aP:Nat):
 ∀(listed:Array Bool) (β:ah) (a:Act) (w:World),listed.size=ops.length→rT ops.length listed≤aP→PJ w0 E n ops g0 β0 A0 ds (fun k=>listed.getD k false=true) β A bw tr a w→wpAnyIn (jC ro) 0 P .any ⟨ops⟩ Q aP listed a w:=by
 have h':bs (eo (vE E sq A) bw) (some (tr,A)) none=some res:=h;clear h;replace h':=aB h';rcases h' with⟨RQ,h'⟩|⟨_,h'⟩
 ·cases h';have bc:=mq _ _ RQ;have fin:∀(listed:Array Bool) (β:ah) (a:Act) (w:World),listed.size=ops.length→PJ w0 E n ops g0 β0 A0 ds (fun k=>listed.getD k false=true) β A bw tr a w→Region.ready .any ⟨ops⟩ listed=[]→Q .normal a w:=fun listed β a w aU j eC=>by
   have all:∀x∈tr,listed.getD x.i false=true:=fun x hx=>Classical.byContradiction fun hn=>by
    obtain⟨y,hy,UO,o,ho,hr⟩:=On (D:=fun k=>listed.getD k false=true) hw ⟨x,hx,hn⟩;have:=IR ho aU UO hr;rw[eC] at this;cases this
   refine hQ β a w ?_ j.inv j.grow j.dh j.defers;have:=j.frame;rw[JL (D':=fun _=>True) (fun x hx=>⟨fun _=>trivial,fun _=>all x hx⟩)] at this;exact this
  induction aP with
  |zero=>
   intro listed β a w aU As j;have eC:Region.ready .any ⟨ops⟩ listed=[]:=by
    cases hq:Region.ready .any ⟨ops⟩ listed with
    |nil=>rfl
    |cons i r=>
     obtain⟨o,ho,hn,_⟩:=BO (ops:=ops) (i:=i) aU (by rw[hq];exact xn);have hi:=(xe.1 ho).1;have:=zI hi aU (by simpa using hn);omega
   exact⟨eC,fin listed β a w aU j eC⟩
  |succ aP ih=>
   intro listed β a w aU As j;refine⟨fun eC=>fin listed β a w aU j eC,fun i hi=> ?_⟩;obtain⟨o,ho,hn,hr⟩:=BO aU hi;have aX:=(xe.1 ho).1;obtain⟨x,hx,iJ⟩:=fE i o ho;obtain⟨e,he,wB⟩:=j.un x hx (by rw[iJ];exact hn);have Tz:e.i=i:=wB.trans iJ;subst Tz;have U1:e.o=o:=by have:=(o6 e he).op;rw[ho] at this;cases this;rfl
   subst U1;refine WB ok aY hs ka hw j o6 eR.2 he (bc e he) hn hr (fun ak a' w' j'=> ?_);rw[←JY (by rw[aU];exact aX)] at j';refine ih _ ak a' w' (by simp[aU]) ?_ j';have:=zI aX aU (by simpa using hn);omega
 ·cases h'
include ok aY hs ka hc in
theorem WS{ρ:Type}{fin:List gK→Gt→AW→List Tr→Option ρ}{es:Nat}(Q:Exit→Act→World→Prop)(res:ρ)(out:Nat→Prop)(Tp:∀k,out k→k≠es∧bit (je ops k) es=true)
 (Ho:∀bw g A tr,fin bw g A tr=some res→mH ops tr→g=gv (fun _=>True) tr g0→(∀e∈bw,PE E sq β0.d ops g0 tr e)→PN A bw→(∀k o,ops[k]? =some o→(∃x∈tr,x.i=k)∨out k)→
  ∀(aP:Nat) (listed:Array Bool) (β:ah) (a:Act) (w:World),listed.size=ops.length→rT ops.length listed≤aP→PJ w0 E n ops g0 β0 A0 ds (fun k=>listed.getD k false=true) β A bw tr a w→wpAnyIn (jC ro) 0 P .any ⟨ops⟩ Q aP listed a w):
 ∀(L:List Nat) (bw:List gK) (g:Gt) (A:AW) (tr:List Tr) (bC:Nat) (jk:Option Nat),zR E sq call ops fin L bw g A tr=some res→vX E ops L bC jk=true→
 (∀k,bit bC k=true↔∃x∈tr,x.i=k)→mH ops tr→g=gv (fun _=>True) tr g0→(∀e∈bw,PE E sq β0.d ops g0 tr e)→PN A bw→(∀k o,ops[k]? =some o→(∃x∈tr,x.i=k)∨k∈L∨out k)→((∃k,out k)→L=[]∨L.getLast?=some es)→
 ∀(aP:Nat) (listed:Array Bool) (β:ah) (a:Act) (w:World),listed.size=ops.length→rT ops.length listed≤aP→PJ w0 E n ops g0 β0 A0 ds (fun k=>listed.getD k false=true) β A bw tr a w→wpAnyIn (jC ro) 0 P .any ⟨ops⟩ Q aP listed a w:=by
 intro L
 induction L with
 |nil=>
  intro bw g A tr bC jk h AY Lw hw hg o6 eR fE cb aP;exact Ho bw g A tr h hw hg o6 eR (fun k o hk=>(fE k o hk).imp id (fun h=>h.resolve_left (by simp))) aP
 |cons i0 L IH=>
  intro bw g A tr bC jk h AY Lw hw hg o6 eR fE cb aP;have h':Fk E sq call ops (zR E sq call ops fin L) i0 bw g A tr=some res:=h;have gT:AZ E ops (vX E ops L) i0 bC jk=true:=AY;clear h AY;unfold AZ at gT;unfold Fk at h';simp only [Fq] at h';rw[eL] at gT h';cases ho:ops[i0]? with
  |none=>rw[ho] at h';cases h'
  |some o=>
   rw[ho] at gT h';simp only [xf,Bool.not_eq_true'] at gT h';obtain⟨⟨⟨jt,df1⟩,yF⟩,nv⟩:=gT;have ow:∀x∈tr,x.i≠i0:=fun x hx e=>by rw[(Lw i0).2 ⟨x,hx,e⟩] at jt;cases jt
   have Dv:∀e∈o.after.toList,Region.binds .any e=true→∃y∈tr,y.i=e.on:=fun e he hb=>by
    have:=mq _ _ df1 e he;rw[hb,ek] at this;exact(Lw e.on).1 this
   have Hp:∀q,bit (Nat.lor bC (Nat.pow 2 i0)) q=(bit bC q||decide (i0=q)):=fun q=>by
    rw[tD,tD];show(bC|||2^i0).testBit q=_;rw[Nat.testBit_or,Nat.testBit_two_pow]
   have JJ:∀v k,bit (Nat.lor bC (Nat.pow 2 i0)) k=true↔∃x∈((⟨i0,o.dst,v⟩:Tr)::tr),x.i=k:=fun v k=>by
    rw[Hp,Bool.or_eq_true,Lw k];constructor
    ·rintro(⟨x,hx,iJ⟩|h)
     ·exact⟨x,xo _ hx,iJ⟩
     ·exact⟨_,xn,of_decide_eq_true h⟩
    ·rintro⟨x,hx,iJ⟩;cases hx with
     |head=>exact .inr (decide_eq_true iJ)
     |tail _ hx=>exact .inl ⟨x,hx,iJ⟩
   have HU:∀v,mH ops ((⟨i0,o.dst,v⟩:Tr)::tr):=fun v=>⟨hw,ow,o,ho,rfl,Dv⟩
   have Em:∀v,gM g o.dst v=gv (fun _=>True) ((⟨i0,o.dst,v⟩:Tr)::tr) g0:=fun v=>by rw[Od,hg]
   have LA:∀v k o',ops[k]? =some o'→(∃x∈((⟨i0,o.dst,v⟩:Tr)::tr),x.i=k)∨k∈L∨out k:=fun v k o' hk=>by
    rcases fE k o' hk with⟨x,hx,iJ⟩|hk|hk
    ·exact .inl ⟨x,xo _ hx,iJ⟩
    ·cases hk with
     |head=>exact .inl ⟨_,xn,rfl⟩
     |tail _ hk=>exact .inr (.inl hk)
    ·exact .inr (.inr hk)
   have qO:(∃k,out k)→L=[]∨L.getLast?=some es:=fun hk=>by
    cases L with
    |nil=>exact .inl rfl
    |cons l0 L0=>
     have:=(cb hk).resolve_left (by simp);rw[List.getLast?_cons_cons] at this;exact .inr this
   have di2:∀k,out k→es∈i0::L:=fun k hk=>List.mem_of_getLast? ((cb ⟨k,hk⟩).resolve_left (by simp))
   split at h'
   ·cases h'
   rename_i wd Aq;replace h':=aB h';rcases h' with⟨C1,h'⟩|⟨C1,h'⟩
   ·
    have js:2≤fC E o.op:=xh C1;rw[C1,ek] at nv;replace h':=aB h';rcases h' with⟨RQ,h'⟩|⟨_,h'⟩;rotate_left
    ·cases h'
    have bc:=mq _ _ RQ;have df6:∀v,∀e∈lT (fun e=>not (bit (je ops i0) e.i)) bw,PE E sq β0.d ops g0 ((⟨i0,o.dst,v⟩:Tr)::tr) e:=fun v e he=>by
     rw[wS,List.mem_filter] at he;exact(o6 e he.1).cons _
    have df4:∀A':AW,A.next≤A'.next→PN A' (lT (fun e=>not (bit (je ops i0) e.i)) bw):=fun A' hA=>by
     refine⟨fun e he N b hb=> ?_,fun e he e' fk N b b' hb eZ=> ?_⟩
     ·rw[wS,List.mem_filter] at he;exact xK (eR.1 e he.1 N b hb) hA
     ·rw[wS,List.mem_filter] at he fk;exact eR.2 e he.1 e' fk.1 N b b' hb eZ
    have eff:∀(aP:Nat) (listed:Array Bool) (β:ah) (a:Act) (w:World),listed.size=ops.length→rT ops.length listed≤aP+1→PJ w0 E n ops g0 β0 A0 ds (fun k=>listed.getD k false=true) β A bw tr a w→
     ¬listed.getD i0 false=true→(∀e∈o.after.toList,Region.binds .any e=true→listed.getD e.on false=true)→wpOpIn (jC ro) 0 P ⟨ops⟩ Q i0 (wpAnyIn (jC ro) 0 P .any ⟨ops⟩ Q aP (listed.setIfInBounds i0 true)) a w:=fun aP listed β a w aU As j hn hr=>by
     have aX:=(xe.1 ho).1;have eu:=zI aX aU (by simpa using hn);have Hg:(listed.setIfInBounds i0 true).size=ops.length:=by simp[aU]
     have ag:∀t∈o.looksAt ⟨ops⟩,gv (fun k=>listed.getD k false=true) tr g0 t=g t:=fun t ht=>by
      have:=ao7 hs j.rB ho hr hn (tr:=(⟨i0,o.dst,undef⟩:Tr)::tr) (tl:=tr) (pre:=[]) (x0:=⟨i0,o.dst,undef⟩) rfl rfl (HU undef) (HU undef) g0 ht;rw[VJ (x:=⟨i0,o.dst,undef⟩) hn] at this;rw[hg];exact this
     have bE1:=EW (a:=a) (by rw[VE ag];exact Aq) j.frame;have DB:∀ak v v' A' w',ai ak v v'→Inv w0 E.G ak A' w'→β.grow ak A.next→A.next≤A'.next→zR E sq call ops fin L (lT (fun e=>not (bit (je ops i0) e.i)) bw) (gM g o.dst v) A' (⟨i0,o.dst,v⟩::tr)=some res→
      wpAnyIn (jC ro) 0 P .any ⟨ops⟩ Q aP (listed.setIfInBounds i0 true) (a.put o.dst v') w':=fun ak v v' A' w' hv bU lM gH ur=>by
      have j':=bs0 ka j ho ow hr hv bU lM gH;rw[←JY (by rw[aU];exact aX)] at j';exact IH _ _ _ _ _ _ ur nv (JJ v) (HU v) (Em v) (df6 v) (df4 A' gH) (LA v) qO aP _ ak _ w' Hg (by omega) j'
     unfold wpOpIn;have tY:(⟨ops⟩:Array Oper)[i0]? =some o:=by simpa using ho
     simp only [tY];rw[bE1];cases wd with
     |false=>
      rw[if_neg (by simp)];rw[gC] at h';exact⟨fun _ _=>trivial,DB β undef undef A w ai.undef j.inv (ah.ca _ _) (xk _) h'⟩
     |true=>
      rw[if_pos rfl];rw[ek] at h';have oc:iY E sq A (gv (fun k=>listed.getD k false=true) tr g0) o.op=iY E sq A g o.op:=bc0 (Oa ag);cases od:iY E sq A g o.op with
      |fail=>rw[od] at h';cases h'
      |nd q=>rw[od] at h';cases h'
      |val v A'=>
       rw[od] at h';simp only [EN,EO] at h';exact Ym ok aY j.inv j.frame (oc.trans od) (fun ak v' w' hv bU lM gH=>DB ak v v' A' w' hv bU lM gH h')
      |call f args=>
       rw[od] at h';simp only at h';split at h'
       ·rename_i v A' li;refine Xi ok j.inv j.frame hc (oc.trans od) li (fun p hp ak v' w' hv bU lM gH=> ?_);simp only [xy] at hp;subst hp;exact DB ak v v' A' w' hv bU lM gH h'
       ·cases h'
    have X2:∀(listed:Array Bool) (β:ah) (a:Act) (w:World),listed.size=ops.length→PJ w0 E n ops g0 β0 A0 ds (fun k=>listed.getD k false=true) β A bw tr a w→Region.ready .any ⟨ops⟩ listed≠[]:=fun listed β a w aU j eC=>by
     have mQ: ¬listed.getD i0 false=true:=fun h=>by obtain⟨x,hx,iJ⟩:=j.only i0 h;exact ow x hx iJ
     have all:∀x∈tr,listed.getD x.i false=true:=fun x hx=>Classical.byContradiction fun hn=>by
      obtain⟨y,hy,UO,o',jb,hr⟩:=On (D:=fun k=>listed.getD k false=true) hw ⟨x,hx,hn⟩;have:=IR jb aU UO hr;rw[eC] at this;cases this
     have:=IR ho aU mQ (fun e he hb=>by obtain⟨y,hy,Eb⟩:=Dv e he hb;exact Eb▸all y hy);rw[eC] at this;cases this
    induction aP with
    |zero=>
     intro listed β a w aU As j;exfalso;have bq:=X2 listed β a w aU j;cases hq:Region.ready .any ⟨ops⟩ listed with
     |nil=>exact bq hq
     |cons i r=>
      obtain⟨o',jb,hn,_⟩:=BO (ops:=ops) (i:=i) aU (by rw[hq];exact xn);have:=zI (xe.1 jb).1 aU (by simpa using hn);omega
    |succ aP ih=>
     intro listed β a w aU As j;refine⟨fun eC=>absurd eC (X2 listed β a w aU j),fun i hi=> ?_⟩;obtain⟨o',jb,hn,hr⟩:=BO aU hi;have aX:=(xe.1 jb).1;rcases fE i o' jb with⟨x,hx,iJ⟩|yU|yU
     ·obtain⟨e,he,wB⟩:=j.un x hx (by rw[iJ];exact hn);have Tz:e.i=i:=wB.trans iJ;subst Tz;have U1:e.o=o':=by have:=(o6 e he).op;rw[jb] at this;cases this;rfl
      subst U1;refine WB ok aY hs ka hw j o6 eR.2 he (bc e he) hn hr (fun ak a' w' j'=> ?_);rw[←JY (by rw[aU];exact aX)] at j';refine ih _ ak a' w' (by simp[aU]) ?_ j';have:=zI aX aU (by simpa using hn);omega
     ·cases yU with
      |head=>
       rw[ho] at jb;cases jb;exact eff aP listed β a w aU As j hn hr
      |tail _ yU=>
       exfalso;obtain⟨e,ba,fT,he3⟩:=O7 L _ i0 nv (by rw[Hp];simp) i yU;have U9:=(EP j.rB jb hr he3).resolve_right fT;obtain⟨x,hx,HT⟩:=j.only e U9;rcases ba with rfl|ba
       ·exact ow x hx HT
       ·have h1:=OL L _ _ nv e ba;rw[(JJ undef e).2 ⟨x,xo _ hx,HT⟩] at h1;cases h1
     ·exfalso;obtain⟨bq,hbt⟩:=Tp i yU;have U9:=(EP j.rB jb hr hbt).resolve_right bq.symm;obtain⟨x,hx,HT⟩:=j.only es U9;cases di2 i yU with
      |head=>exact ow x hx HT
      |tail _ ba=>
       have h1:=OL L _ _ nv es ba;rw[(JJ undef es).2 ⟨x,xo _ hx,HT⟩] at h1;cases h1
   ·
    have eS:fC E o.op≤1:=by
     have: ¬2≤fC E o.op:=fun e=>by rw[Nat.ble_eq_true_of_le e] at C1;cases C1
     omega
    rw[C1,gC] at nv;intro listed β a w aU As j;have Jx:∀(v:xM) (A':AW) (y3:Bool) (nb:Option (Nat×ap)) (sy:Option Node),zR E sq call ops fin L (⟨i0,o,g,v,y3,nb,sy⟩::bw) (gM g o.dst v) A' (⟨i0,o.dst,v⟩::tr)=some res→(A'=A∨(∃ao,r7 ao∧A'=A.add ao)∨∃r,(∀nd∈r,nd∈A.tape)∧A'=A.pop r)→
     (∀N b,nb=some (N,b)→N=A.next∧A.next<A'.next)→oM ops g o=some y3→(y3=false→v=undef)→(y3=true→nb=none→sy=none→fC E o.op=0∧∃A1,aC E sq A1 g o.op= .val v A1)→
     (y3=true→∀N ao,nb=some (N,ao)→fC E o.op=1∧∃A1 A2,A1.next=N∧A1.get N=none∧aC E sq A1 g o.op= .val v A2∧A2.get N=some ao)→(∀nd,sy=some nd→nb=none∧y3=true∧dw β0.d nd)→wpAnyIn (jC ro) 0 P .any ⟨ops⟩ Q aP listed a w:=fun v A' y3 nb sy ur hA rk Ec de6 hqt sU Bi=>by
     have gH:A.next≤A'.next:=by
      rcases hA with rfl|⟨ao,_,rfl⟩|⟨r,_,rfl⟩
      ·exact xk _
      ·exact Nat.le_succ _
      ·exact xk _
     have j':=bv3 (e:=⟨i0,o,g,v,y3,nb,sy⟩) (v:=v) j eS ho ow rfl hA rk;refine IH _ _ _ _ _ _ ur nv (JJ v) (HU v) (Em v) (fun e he=> ?_) ⟨fun e he N b hb=> ?_,fun e he e' fk N b b' hb eZ=> ?_⟩ (LA v) qO aP listed β a w aU As j'
     ·cases he with
      |head=>exact⟨⟨[],⟨i0,o.dst,v⟩,tr,rfl,rfl,rfl,HU v,hg⟩,ho,eS,Ec,de6,hqt,sU,Bi⟩
      |tail _ he=>exact(o6 e he).cons _
     ·cases he with
      |head=>obtain⟨rfl,h2⟩:=rk N b hb;exact h2
      |tail _ he=>exact xK (eR.1 e he N b hb) gH
     ·cases he with
      |head=>cases fk with
       |head=>rfl
       |tail _ fk=>
        have h1:=(rk N b hb).1;have h2:=eR.1 e' fk N b' eZ;omega
      |tail _ he=>cases fk with
       |head=>
        have h1:=(rk N b' eZ).1;have h2:=eR.1 e he N b hb;omega
       |tail _ fk=>exact eR.2 e he e' fk N b b' hb eZ
    cases wd with
    |false=>
     rw[gC] at h';exact Jx undef A false none none h' (.inl rfl) (fun N b hb=>by cases hb) Aq (fun _=>rfl) (fun e=>by cases e) (fun e=>by cases e) (fun nd e=>by cases e)
    |true=>
     rw[ek] at h';cases od:aC E sq A g o.op with
     |fail=>
      rw[od] at h';simp only at h';split at h'
      ·cases h'
      ·rename_i nd r ht;split at h'
       ·rename_i v hv;have yU:∀x∈r,x∈A.tape:=fun x hx=>by rw[ht];exact xo _ hx
        refine Jx v (A.pop r) true none (some nd) h' (.inr (.inr ⟨r,yU,rfl⟩)) (fun N b hb=>by cases hb) Aq (fun e=>by cases e) (fun _ _ e=>by cases e) (fun _ N b hb=>by cases hb) (fun nd' e=> ?_);cases e;exact⟨rfl,rfl,by rw[←j.grow.d];exact ok.q _ _ (j.inv.fw nd (by rw[ht];exact xn))⟩
       ·cases h'
     |nd q=>rw[od] at h';cases h'
     |call f args=>rw[od] at h';cases h'
     |val v A'=>
      rw[od] at h';simp only [EN,EO] at h';replace h':=aB h';rcases h' with⟨iL,h'⟩|⟨iL,h'⟩
      ·have mF:=xb iL;split at h'
       ·rename_i b hb;obtain⟨ao,gi,jM⟩:=bd1 mF od;have jc:A.next<A'.next:=by rw[jM];exact Nat.lt_succ_self _
        refine Jx v A' true (some (A.next,b)) none h' (.inr (.inl ⟨ao,gi,jM⟩)) (fun N b' eZ=>by cases eZ;exact⟨rfl,jc⟩) Aq (fun e=>by cases e) (fun _ e=>by cases e) (fun _ N b' eZ=> ?_) (fun nd e=>by cases e);cases eZ;exact⟨mF,A,A',rfl,j.inv.dh _ (xk _),od,hb⟩
       ·cases h'
      ·have aI2:fC E o.op=0:=by
        have: ¬fC E o.op=1:=fun e=>by rw[e] at iL;cases iL
        omega
       have RS:=Oi aI2 od;subst RS;exact Jx v A' true none none h' (.inl rfl) (fun N b hb=>by cases hb) Aq (fun e=>by cases e) (fun _ _ _=>⟨aI2,A',od⟩) (fun _ N b hb=>by cases hb) (fun nd e=>by cases e)
end
def z6(E:av)(sq:List (Nat×List xO))(ops:List Oper)(A:AW)(g:Gt)(o:Oper):Option (xM×AW×List Nat):=
 match oM ops g o with
 |none=>none
 |some false=>some (undef,A,[])
 |some true=>match aC E sq A g o.op with
  | .val v A'=>bs (Nat.beq (fC E o.op) 0) (some (v,A',[])) (match o.op with
   | .store _ a _=>(match ev E g a with| .pointer (some ⟨B,_,_⟩)=>some (v,A',[B])|_=>none)
   |_=>none)
  |_=>none
def uZ(ops:List Oper)(bC:Nat):List Nat:=
 lT (fun i=>match dj ops i with|some o=>not (bit bC i)&&Fh bC o|none=>false) (qG (fun i=>i) (bE ops) [])
def RX(E:av)(sq:List (Nat×List xO))(ops:List Oper)(Dt:Gt→AW→List Nat→Bool)(aP:Nat):Nat→Gt→AW→List Nat→Bool:=
 Nat.rec (motive:=fun _=>Nat→Gt→AW→List Nat→Bool) (fun _ _ _ _=>false)
  (fun _ ih bC g A tb=>match uZ ops bC with
   |[]=>Dt g A tb
   |r::rs=>eo (fun i=>match dj ops i with
    |none=>false
    |some o=>match z6 E sq ops A g o with
     |none=>false
     |some (v,A',t)=>ih (Nat.lor bC (Nat.pow 2 i)) (gM g o.dst v) A' (aj t tb)) (r::rs)) aP
def Se(E:av)(sq:List (Nat×List xO))(ops:List Oper)(aP:Nat):Nat→Gt→AW→List Tr→List Nat→Option (Gt×AW×List Tr×List Nat):=
 Nat.rec (motive:=fun _=>Nat→Gt→AW→List Tr→List Nat→Option (Gt×AW×List Tr×List Nat)) (fun _ _ _ _ _=>none)
  (fun _ ih bC g A tr tb=>match uZ ops bC with
   |[]=>some (g,A,tr,tb)
   |i::_=>match dj ops i with
    |none=>none
    |some o=>match z6 E sq ops A g o with
     |none=>none
     |some (v,A',t)=>ih (Nat.lor bC (Nat.pow 2 i)) (gM g o.dst v) A' (⟨i,o.dst,v⟩::tr) (aj t tb)) aP
def Sx(a b:Option ap):Bool:=match a,b with|some x,some y=>LJ x y|none,none=>true|_,_=>false
def aa7(ops:List Oper)(mask0:Nat)(gc:Gt)(Ac:AW)(pN:List Nat)(g:Gt)(A:AW)(tb:List Nat):Bool:=
 eo (fun B=>Sx (A.get B) (Ac.get B)) (aj tb pN)&&rV (fun i o=>bs (bit mask0 i) true (match o.dst with|none=>true|some d=>ud (g d) (gc d))) ops 0
def qh(tr:List Tr):Nat:=List.rec (motive:=fun _=>Nat) 0 (fun x _ m=>Nat.lor m (Nat.pow 2 x.i)) tr
def Jm(E:av)(sq:List (Nat×List xO))(ops:List Oper)(bw:List gK)(g:Gt)(A:AW)(tr:List Tr):Option (List Tr×AW):=
 match bw with
 |[]=>match Se E sq ops (Nat.add (bE ops) 1) (qh tr) g A tr [] with
  |some (gc,Ac,qU,pN)=>bs (RX E sq ops (aa7 ops (qh tr) gc Ac pN) (Nat.add (bE ops) 1) (qh tr) g A []) (some (qU,⟨Ac.heap,Ac.next,A.tape⟩)) none
  |none=>none
 |_=>none
theorem aV2{E:av}{A A':AW}{t:xN}{a x:xM}(h:yb E A t a x=some A'):∃B o ao,a= .pointer (some ⟨B,o,none⟩)∧A'=A.put B (some ao):=by
 unfold yb at h;split at h
 ·split at h
  ·replace h:=aB h;rcases h with⟨_,h⟩|⟨_,h⟩<;>cases h
   exact⟨_,_,_,rfl,rfl⟩
  ·cases h
 ·cases h
theorem VP{E:av}{sq:List (Nat×List xO)}{ops:List Oper}{A A':AW}{g:Gt}{o:Oper}{v:xM}{t:List Nat}(h:z6 E sq ops A g o=some (v,A',t)):
 (∃wd,oM ops g o=some wd∧(wd=false→v=undef∧A'=A)∧(wd=true→aC E sq A g o.op= .val v A'))∧A'.next=A.next∧∀C,C∉t→A'.get C=A.get C:=by
 unfold z6 at h;split at h
 ·cases h
 ·rename_i hw;cases h;exact⟨⟨false,hw,fun _=>⟨rfl,rfl⟩,fun e=>by cases e⟩,rfl,fun _ _=>rfl⟩
 ·rename_i hw;split at h
  ·rename_i v1 A1 eu;replace h:=aB h;rcases h with⟨hk,h⟩|⟨_,h⟩
   ·cases h;have:=Oi (xb hk) eu;subst this;exact⟨⟨true,hw,(fun e=>by cases e),fun _=>eu⟩,rfl,fun _ _=>rfl⟩
   ·split at h
    ·rename_i ty ad x ho;split at h
     ·rename_i B of md wA;cases h;have tY:=eu;rw[ho] at tY;simp only [aC] at tY;obtain⟨bc,_⟩:=zM tY;obtain⟨B2,o2,ao,ha,rfl⟩:=aV2 bc;rw[wA] at ha;cases ha;refine⟨⟨true,hw,(fun e=>by cases e),fun _=>eu⟩,rfl,fun C hC=> ?_⟩;rcases A.iO B (some ao) C with⟨_,e⟩|⟨_,e⟩|⟨e,_⟩
      ·exact absurd (by simp[e]) hC
      ·exact absurd (by simp[e]) hC
      ·exact e
     ·cases h
    ·cases h
  ·cases h
theorem Inv.ext{w0 w:World}{G:GP}{β:ah}{A A':AW}(h:Inv w0 G β A w)(hg:∀C,A'.get C=A.get C)(hn:A'.next=A.next)(ht:∀nd∈A'.tape,G.Q β.d nd):Inv w0 G β A' w:=
 ⟨h.below,fun B l e=>by rw[hn];exact h.gU B l e,fun B hB=>by rw[hg];exact h.dh B (by rw[←hn];exact hB),h.loc,fun B B' l l' e e' eE ha iz=>h.inj B B' l l' e e' eE (by rw[←hg];exact ha) (by rw[←hg];exact iz),
  fun B ao l hb e=>h.cont B ao l (by rw[←hg];exact hb) e,h.jm,h.bH,fun B l kb hG e ha hs=>h.sep B l kb hG e (by rw[←hg];exact ha) hs,ht,fun B k hk=>h.own B k (by rw[←hg];exact hk),fun B v e=>(by rw[hn];exact h.jj B v e),h.lay,h.xg,h.jv,h.zo⟩
theorem br9{a b:Option ap}(h:Sx a b=true):a=b:=by
 unfold Sx at h;split at h
 ·rw[Xd h]
 ·rfl
 ·cases h
theorem JS(bC i q:Nat):bit (Nat.lor bC (Nat.pow 2 i)) q=(bit bC q||decide (i=q)):=by
 rw[tD,tD];show(bC|||2^i).testBit q=_;rw[Nat.testBit_or,Nat.testBit_two_pow]
theorem Wo:∀(tr:List Tr) (k:Nat),bit (qh tr) k=true↔∃x∈tr,x.i=k
 |[],k=>by
  rw[show qh []=0 from rfl,tD,Nat.zero_testBit];constructor
  ·intro e;cases e
  ·rintro⟨x,hx,_⟩;cases hx
 |x::tr,k=>by
  rw[show qh (x::tr)=Nat.lor (qh tr) (Nat.pow 2 x.i) from rfl,JS,Bool.or_eq_true,Wo tr k];constructor
  ·rintro(⟨y,hy,Nw⟩|e)
   ·exact⟨y,xo _ hy,Nw⟩
   ·exact⟨x,xn,of_decide_eq_true e⟩
  ·rintro⟨y,hy,Nw⟩;cases hy with
   |head=>exact .inr (decide_eq_true Nw)
   |tail _ hy=>exact .inl ⟨y,hy,Nw⟩
theorem Oj{ops:List Oper}{bC i:Nat}:i∈uZ ops bC↔∃o,ops[i]? =some o∧bit bC i=false∧∀e∈o.after.toList,Region.binds .any e=true→bit bC e.on=true:=by
 unfold uZ;rw[wS,List.mem_filter,x8,dg];simp only [List.map_id',xj,List.mem_range,eL];have eC:∀o:Oper,Fh bC o=true↔∀e∈o.after.toList,Region.binds .any e=true→bit bC e.on=true:=fun o=>by
  unfold Fh;generalize o.after.toList=l
  induction l with
  |nil=>simp[eo]
  |cons e l ih=>
   have hl:eo (fun e=>bs (Region.binds .any e) (bit bC e.on) true) (e::l)=bs (bs (Region.binds .any e) (bit bC e.on) true) (eo (fun e=>bs (Region.binds .any e) (bit bC e.on) true) l) false:=rfl;rw[hl];simp only [xG,forall_eq_or_imp];rw[←ih];cases Region.binds .any e<;>cases bit bC e.on<;>simp only [ek,gC]<;>simp
 constructor
 ·rintro⟨_,h⟩;split at h
  ·rename_i o ho;rw[xf,Bool.not_eq_true'] at h;exact⟨o,ho,h.1,(eC o).1 h.2⟩
  ·cases h
 ·rintro⟨o,ho,h1,h2⟩;refine⟨(xe.1 ho).1,?_⟩;rw[ho];simp only [h1,Bool.not_false,Bool.true_and];exact(eC o).2 h2
section
variable{P:Program}{E:av}(ok:E.Ok P){sq:List (Nat×List xO)}(aY:E.Seq P sq){w0:World}{n:Nat}{ops:List Oper}(ka:∀o∈ops,∀d,o.dst=some d→d<n){β0:ah}{A0:AW}{ds:List Deferred}{ro:Option Nat}
def yK(ops:List Oper)(mask0:Nat)(g1:Gt)(A1:AW)(g:Gt)(A:AW)(tb:List Nat):Prop:=
 (∀C,C∉tb→A.get C=A1.get C)∧A.next=A1.next∧∀t,(∀(i:Nat) (o:Oper),ops[i]? =some o→bit mask0 i=false→o.dst≠some t)→g t=g1 t
theorem yK.step{mask0:Nat}{g1 g:Gt}{A1 A A':AW}{tb t:List Nat}{i:Nat}{o:Oper}{v:xM}(h:yK ops mask0 g1 A1 g A tb)(ho:ops[i]? =some o)(hi:bit mask0 i=false)(h1:z6 E sq ops A g o=some (v,A',t)):yK ops mask0 g1 A1 (gM g o.dst v) A' (aj t tb):=by
 obtain⟨_,hn,hg⟩:=VP h1;refine⟨fun C hC=> ?_,hn.trans h.2.1,fun s hs=> ?_⟩
 ·rw[iN,xF] at hC;rw[hg C (fun e=>hC (.inl e))];exact h.1 C (fun e=>hC (.inr e))
 ·rw[BU,if_neg (hs i o ho hi)];exact h.2.2 s hs
include ok aY ka in
theorem X9{Dt:Gt→AW→List Nat→Bool}{mask0:Nat}{g1:Gt}{A1:AW}(Q:Exit→Act→World→Prop)
 (aj0:∀g A tb β a w,Dt g A tb=true→yK ops mask0 g1 A1 g A tb→bX β n g a.tmps→Inv w0 E.G β A w→β0.grow β A0.next→A0.next≤A.next→a.defers=ds→Q .normal a w):
 ∀(C6 bC:Nat) (g:Gt) (A:AW) (tb:List Nat) (listed:Array Bool) (β:ah) (a:Act) (w:World) (aP:Nat),RX E sq ops Dt C6 bC g A tb=true→(∀k,bit bC k=true↔listed.getD k false=true)→(∀k,bit mask0 k=true→bit bC k=true)→
  listed.size=ops.length→rT ops.length listed≤aP→yK ops mask0 g1 A1 g A tb→bX β n g a.tmps→Inv w0 E.G β A w→β0.grow β A0.next→A0.next≤A.next→a.defers=ds→wpAnyIn (jC ro) 0 P .any ⟨ops⟩ Q aP listed a w
 |0,bC,g,A,tb,listed,β,a,w,aP,h,hm,kq,aU,eu,hk,hf,inv,lM,jc,hd=>by cases h
 |C6+1,bC,g,A,tb,listed,β,a,w,aP,h,hm,kq,aU,eu,hk,hf,inv,lM,jc,hd=>by
  have h':(match uZ ops bC with
   |[]=>Dt g A tb
   |r::rs=>eo (fun i=>match dj ops i with
    |none=>false
    |some o=>match z6 E sq ops A g o with
     |none=>false
     |some (v,A',t)=>RX E sq ops Dt C6 (Nat.lor bC (Nat.pow 2 i)) (gM g o.dst v) A' (aj t tb)) (r::rs))=true:=h
  clear h;have ux:∀i,i∈Region.ready .any ⟨ops⟩ listed→i∈uZ ops bC:=fun i hi=>by
   obtain⟨o,ho,hn,hr⟩:=BO aU hi;exact Oj.2 ⟨o,ho,by cases hb:bit bC i with|false=>rfl|true=>exact absurd ((hm i).1 hb) hn,fun e he hb=>(hm e.on).2 (hr e he hb)⟩
  split at h'
  ·rename_i dg2;have eC:Region.ready .any ⟨ops⟩ listed=[]:=List.eq_nil_iff_forall_not_mem.2 fun i hi=>by have:=ux i hi;rw[dg2] at this;cases this
   have hq:=aj0 g A tb β a w h' hk hf inv lM jc hd;cases aP with
   |zero=>exact⟨eC,hq⟩
   |succ aP=>exact⟨fun _=>hq,fun i hi=>by rw[eC] at hi;cases hi⟩
  ·rename_i r rs C4;obtain⟨o0,Eh,sW,kp⟩:=Oj.1 (show r∈uZ ops bC by rw[C4];exact xn);have mQ: ¬listed.getD r false=true:=fun e=>by rw[(hm r).2 e] at sW;cases sW
   have dg9:=(xe.1 Eh).1;have hos:=zI dg9 aU (by simpa using mQ);cases aP with
   |zero=>omega
   |succ aP=>
    refine⟨fun eC=> ?_,fun i hi=> ?_⟩
    ·have:=IR Eh aU mQ (fun e he hb=>(hm e.on).1 (kp e he hb));rw[eC] at this;cases this
    ·obtain⟨o,ho,hn,hr⟩:=BO aU hi;have aX:=(xe.1 ho).1;have fE:=mq _ _ h' i (by rw[←C4];exact ux i hi);simp only [eL,ho] at fE;split at fE
     ·cases fE
     ·rename_i v A' t h1;have NM:bit bC i=false:=by cases hb:bit bC i with|false=>rfl|true=>exact absurd ((hm i).1 hb) hn
      have TD:bit mask0 i=false:=by cases hb:bit mask0 i with|false=>rfl|true=>rw[kq i hb] at NM;cases NM
      have bN:=hk.step ho TD h1;obtain⟨⟨wd,hw,hwf,Ec⟩,gH,_⟩:=VP h1;have dF3:=zI aX aU (by simpa using hn);have DB:∀ak v' w',ai ak v v'→Inv w0 E.G ak A' w'→β.grow ak A.next→wpAnyIn (jC ro) 0 P .any ⟨ops⟩ Q aP (listed.setIfInBounds i true) (a.put o.dst v') w':=fun ak v' w' hv bU MA=>by
       have aR:=inv.fY MA;refine X9 Q aj0 C6 _ _ _ _ _ ak _ w' aP fE (fun k=> ?_) (fun k jt=> ?_) (by simp[aU]) (by omega) bN ((hf.mono aR).gM (fun d hd=>ka o (xu ho) d hd) hv) bU (ah.iB lM MA jc) (by rw[gH];exact jc) ?_
       ·have:=congrFun (JY (listed:=listed) (i:=i) (by rw[aU];exact aX)) k;rw[JS,Bool.or_eq_true,hm k,decide_eq_true_iff];rw[show((listed.setIfInBounds i true).getD k false=true)=(listed.getD k false=true∨k=i) from this];exact or_congr Iff.rfl eq_comm
       ·rw[JS,kq k jt];rfl
       ·cases o.dst<;>exact hd
      unfold wpOpIn;have tY:(⟨ops⟩:Array Oper)[i]? =some o:=by simpa using ho
      simp only [tY];rw[EW hw hf];cases wd with
      |false=>
       rw[if_neg (by simp)];obtain⟨rfl,rfl⟩:=hwf rfl;exact⟨fun _ _=>trivial,DB β undef w ai.undef inv (ah.ca _ _)⟩
      |true=>
       rw[if_pos rfl];exact bo7 ok aY inv hf (Ec rfl) (fun ak v' w' hv bU MA _=>DB ak v' w' hv bU MA)
theorem Wh{mask0:Nat}{g0 g1:Gt}{A1:AW}:∀(aP bC:Nat) (g:Gt) (A:AW) (tr:List Tr) (tb:List Nat) (gc:Gt) (Ac:AW) (qU:List Tr) (pN:List Nat),Se E sq ops aP bC g A tr tb=some (gc,Ac,qU,pN)→(∀k,bit mask0 k=true→bit bC k=true)→
 g=gv (fun _=>True) tr g0→yK ops mask0 g1 A1 g A tb→gc=gv (fun _=>True) qU g0∧yK ops mask0 g1 A1 gc Ac pN
 |0,bC,g,A,tr,tb,gc,Ac,qU,pN,h,kq,hg,hk=>by cases h
 |aP+1,bC,g,A,tr,tb,gc,Ac,qU,pN,h,kq,hg,hk=>by
  have h':(match uZ ops bC with
   |[]=>some (g,A,tr,tb)
   |i::_=>match dj ops i with
    |none=>none
    |some o=>match z6 E sq ops A g o with
     |none=>none
     |some (v,A',t)=>Se E sq ops aP (Nat.lor bC (Nat.pow 2 i)) (gM g o.dst v) A' (⟨i,o.dst,v⟩::tr) (aj t tb))=some (gc,Ac,qU,pN):=h
  clear h;split at h'
  ·cases h';exact⟨hg,hk⟩
  ·rename_i i rs C4;obtain⟨o0,Eh,sW,kp⟩:=Oj.1 (show i∈uZ ops bC by rw[C4];exact xn);simp only [eL,Eh] at h';split at h'
   ·cases h'
   ·rename_i v A' t h1;have TD:bit mask0 i=false:=by cases hb:bit mask0 i with|false=>rfl|true=>rw[kq i hb] at sW;cases sW
    refine Wh aP _ _ _ _ _ gc Ac qU pN h' (fun k jt=>by rw[JS,kq k jt];rfl) ?_ (hk.step Eh TD h1);rw[Od,hg]
include ok aY ka in
theorem aZ3{g0:Gt}{bw:List gK}{g:Gt}{A:AW}{tr:List Tr}{res:List Tr×AW}(h:Jm E sq ops bw g A tr=some res)(hg:g=gv (fun _=>True) tr g0)
 (Q:Exit→Act→World→Prop) (hQ:∀β a w,bX β n (gv (fun _=>True) res.1 g0) a.tmps→Inv w0 E.G β res.2 w→β0.grow β A0.next→A0.next≤res.2.next→a.defers=ds→Q .normal a w) (aP:Nat)
 (listed:Array Bool) (β:ah) (a:Act) (w:World) (aU:listed.size=ops.length) (eu:rT ops.length listed≤aP) (j:PJ w0 E n ops g0 β0 A0 ds (fun k=>listed.getD k false=true) β A bw tr a w):wpAnyIn (jC ro) 0 P .any ⟨ops⟩ Q aP listed a w:=by
 unfold Jm at h;split at h;rotate_left
 ·cases h
 split at h;rotate_left
 ·cases h
 rename_i gc Ac qU pN de7;replace h:=aB h;rcases h with⟨hen,h⟩|⟨_,h⟩;rotate_left
 ·cases h
 cases h;have all:∀x∈tr,listed.getD x.i false=true:=fun x hx=>Classical.byContradiction fun hn=>by
  obtain⟨e,he,_⟩:=j.un x hx hn;cases he
 have sU:bX β n g a.tmps:=by
  have:=j.frame;rw[JL (D':=fun _=>True) (fun x hx=>⟨fun _=>trivial,fun _=>all x hx⟩),←hg] at this;exact this
 have jt:yK ops (qh tr) g A g A []:=⟨fun _ _=>rfl,rfl,fun _ _=>rfl⟩;obtain⟨hgc,UU⟩:=Wh (mask0:=qh tr) (g0:=g0) (g1:=g) (A1:=A) _ _ _ _ _ _ gc Ac qU pN de7 (fun _ h=>h) hg jt;refine X9 ok aY ka (mask0:=qh tr) (g1:=g) (A1:=A) Q (fun g2 A2 tb2 cT a2 w2 hl js bx de1 Mz df8 ig=> ?_) _ _ g A [] listed β a w aP hen (fun k=> ?_) (fun _ h=>h) aU eu jt sU j.inv j.grow j.dh j.defers
 ·unfold aa7 at hl;rw[xf] at hl;have pK:∀C,(⟨Ac.heap,Ac.next,A.tape⟩:AW).get C=A2.get C:=fun C=>by
   by_cases hC:C∈aj tb2 pN
   ·exact(br9 (mq _ _ hl.1 C hC)).symm
   ·rw[iN,xF] at hC;exact(UU.1 C (fun e=>hC (.inr e))).trans (js.1 C (fun e=>hC (.inl e))).symm
  have jc:(⟨Ac.heap,Ac.next,A.tape⟩:AW).next=A2.next:=UU.2.1.trans js.2.1.symm;refine hQ cT a2 w2 (bx.ext fun t=> ?_) (de1.ext pK jc (fun nd cS=>by rw[Mz.d,←j.grow.d];exact j.inv.fw nd cS)) Mz (by rw[show(qU,(⟨Ac.heap,Ac.next,A.tape⟩:AW)).2.next=A2.next from jc];exact df8) ig;show gv (fun _=>True) qU g0 t=g2 t;rw[←hgc];by_cases ht:∃(i:Nat) (o:Oper),ops[i]? =some o∧bit (qh tr) i=false∧o.dst=some t
  ·obtain⟨i,o,ho,hb,hd⟩:=ht;have:=B1 _ ops 0 hl.2 i o ho;rw[Nat.zero_add,hb,gC,hd] at this;exact(Fb this).symm
  ·have gG:∀(i:Nat) (o:Oper),ops[i]? =some o→bit (qh tr) i=false→o.dst≠some t:=fun i o ho hb hd=>ht ⟨i,o,ho,hb,hd⟩
   rw[UU.2.2 t gG,js.2.2 t gG]
 ·rw[Wo];constructor
  ·rintro⟨x,hx,rfl⟩;exact all x hx
  ·exact j.only k
end
def dm6(E:av)(ops:List Oper)(L:List Nat):List Nat→Option (List Nat×Nat)→Option (List Nat×Nat):=
 List.rec (motive:=fun _=>List Nat→Option (List Nat×Nat)→Option (List Nat×Nat)) (fun _ TU=>TU)
  (fun i r ih acc TU=>ih (aj acc [i]) (bs (match dj ops i with|some o=>Nat.ble 2 (fC E o.op)&&eo (fun k=>bit (je ops k) i) r&&vX E ops (aj acc [i]) 0 none|none=>false) (some (aj acc [i],i)) TU)) L
def aa6(L:List Nat):Option Nat:=List.rec (motive:=fun _=>Option Nat) none (fun a r ih=>match r with|[]=>some a|_::_=>ih) L
theorem WW:∀L:List Nat,aa6 L=L.getLast?
 |[]=>rfl
 |[a]=>rfl
 |a::b::L=>by
  have:=WW (b::L);rw[List.getLast?_cons_cons,←this];rfl
def Z6(E:av)(n:Nat)(ops:List Oper)(L:List Nat)(es:Nat):Bool:=
 vX E ops L 0 none&&rV (fun i _=>uk i L||(not (Nat.beq i es)&&bit (je ops i) es)) ops 0&&rV (fun i oi=>rV (fun j oj=>CL ops i oi j oj) ops 0) ops 0&&eo (fun o=>match o.dst with|some d=>Nat.blt d n|none=>true) ops&&
  (match aa6 L with|some e=>Nat.beq e es|none=>false)
def G'(n:Nat)(fr:Fr)(x:Option (List Tr×AW)):aZ Fr:=
 match x with
 |some (tr,A')=>match PX n fr tr with|some cP=>some [(cP,A')]|none=>none
 |none=>none
def tQ(E:av)(sq:List (Nat×List xO))(call:cL→List xM→AW→aZ xM)(n:Nat)(ops:List Oper)(fr:Fr)(A:AW):aZ Fr:=
 bs (Z7 E n ops (Jg E ops)) (G' n fr (Fj E sq call ops (Qm E sq) (Jg E ops) [] fr A []))
  (match dm6 E ops (Jg E ops) [] none with
  |some (L1,es)=>bs (Z6 E n ops L1 es) (G' n fr (Fj E sq call ops (Jm E sq ops) L1 [] fr A [])) none
  |none=>none)
def PD(E:av)(d:List Oper→Fr→AW→aZ Fr)(ops:List Oper)(fr:Fr)(A:AW):aZ Fr:=
 match A.tape with
 |[]=>d ops fr A
 |nd::r=>match nd.k,nd.args with
  | .own 2,[.int _ (.ofNat t)]=>(match nD E.G.n 4 (fr.get J t) (A.pop r) with
   |some (u,A1)=>d ops (fr.set t u) A1
   |none=>none)
  |_,_=>d ops fr A
section
variable{P:Program}{E:av}(ok:E.Ok P){sq:List (Nat×List xO)}(aY:E.Seq P sq)
include ok aY
theorem Ya{call:cL→List xM→AW→aZ xM}(hc:fN P E call)(n:Nat):tE P E n (tQ E sq call n):=by
 intro ro w0 ops fr A bh β a w id h hf inv;have gG:∀k,¬(Array.replicate ops.length false).getD k false=true:=fun k=>by
  by_cases hk:k<ops.length
  ·simp[hk]
  ·simp[hk]
 have aU:(⟨ops⟩:Array Oper).size=ops.length:=rfl;have YW:∀k,bit 0 k=true↔∃x∈([]:List Tr),x.i=k:=fun k=>by
  rw[tD,Nat.zero_testBit];constructor
  ·intro e;cases e
  ·rintro⟨x,hx,_⟩;cases hx
 have aH1:rT ops.length (Array.replicate ops.length false)≤ops.length:=by
  unfold rT;exact xH (List.length_filter_le _ _) (by simp)
 have hpj:PJ w0 E n ops (fr.get J) β A a.defers (fun k=>(Array.replicate ops.length false).getD k false=true) β A [] [] a {w with drawn:=w.drawn+1}:=
  ⟨fun j oj _ hj=>absurd hj (gG j),(fun x hx=>by cases hx),(fun x hx=>by cases hx),fun j hj=>absurd hj (gG j),hf,inv.drew _,(fun e he=>by cases he),ah.ca _ _,xk _,rfl⟩
 have ka:∀(zp:eo (fun o:Oper=>match o.dst with|some d=>Nat.blt d n|none=>true) ops=true),∀o∈ops,∀d,o.dst=some d→d<n:=fun zp o ho d hd=>by
  have:=mq _ _ zp o ho;rw[hd] at this;exact xh this
 have fin:∀(res:List Tr×AW),G' n fr (some res)=some bh→∀ak a' w',bX ak n (gv (fun _=>True) res.1 (fr.get J)) a'.tmps→Inv w0 E.G ak res.2 w'→β.grow ak A.next→A.next≤res.2.next→a'.defers=a.defers→(Exit.normal= .normal∧oU w0 E.G n β A a.defers bh a' w'):=fun res ho ak a' w' g1 g2 g3 g4 g5=>by
  unfold G' at ho;simp only at ho;split at ho
  ·rename_i cP cm1;cases ho;refine⟨rfl,(cP,res.2),xn,ak,⟨g1.1,fun t=> ?_⟩,g2,g3,g4,g5⟩;rcases VO res.1 cP cm1 t with e|e
   ·show ai ak (cP.get J t) _;rw[e];exact g1.2 t
   ·show ai ak (cP.get J t) _;rw[e];exact .j9 _
  ·cases ho
 have p9:∀x,G' n fr x=some bh→∃res,x=some res:=fun x hx=>by
  cases x with
  |none=>cases hx
  |some res=>exact⟨res,rfl⟩
 unfold tQ at h;replace h:=aB h;rcases h with⟨hp,h⟩|⟨_,h⟩
 ·unfold Z7 at hp;simp only [xf] at hp;obtain⟨⟨⟨⟨AY,TB⟩,RR⟩,zp⟩,_⟩:=hp;have hs:=WM RR;obtain⟨res,Hh⟩:=p9 _ h;rw[Hh] at h;have ur:=OD _ _ _ _ _ Hh;refine wpIn_region_any ok.mixed ?_;rw[aU];refine WS (w0:=w0) (g0:=fr.get J) (β0:=β) (A0:=A) (ds:=a.defers) (fin:=Qm E sq) (es:=0) ok aY hs (ka zp) hc _ res (fun _=>False) (fun _ h=>h.elim) (fun bw g A2 tr Ho hw hg o6 eR fE=> ?_) (Jg E ops) [] (fr.get J) A [] 0 none ur AY YW trivial rfl (fun e he=>by cases he) ⟨(fun e he=>by cases he),(fun e he=>by cases he)⟩ (fun k o hk=> .inr (.inl ?_)) (fun⟨_,h⟩=>h.elim) ops.length (Array.replicate ops.length false) β a _ (by simp) aH1 hpj
  ·exact bd5 ok aY hs (ka zp) Ho hw o6 eR (fun k o hk=>(fE k o hk).resolve_right (fun h=>h)) _ (fin res h)
  ·have:=B1 _ ops 0 TB k o hk;rw[Nat.zero_add] at this;exact E4 this
 ·split at h
  ·rename_i L1 es aI3;replace h:=aB h;rcases h with⟨hp,h⟩|⟨_,h⟩
   ·unfold Z6 at hp;simp only [xf] at hp;obtain⟨⟨⟨⟨AY,TB⟩,RR⟩,zp⟩,yF⟩:=hp;have hs:=WM RR;have hl:L1.getLast?=some es:=by
     split at yF
     ·rename_i e he;rw[←WW,he,xb yF]
     ·cases yF
    obtain⟨res,Hh⟩:=p9 _ h;rw[Hh] at h;have ur:=OD _ _ _ _ _ Hh;refine wpIn_region_any ok.mixed ?_;rw[aU];refine WS (w0:=w0) (g0:=fr.get J) (β0:=β) (A0:=A) (ds:=a.defers) (fin:=Jm E sq ops) (es:=es) ok aY hs (ka zp) hc _ res (fun k=>k≠es∧bit (je ops k) es=true) (fun _ h=>h) (fun bw g A2 tr Ho hw hg o6 eR fE C6 listed cT a2 w2 q1 q2 q3=> ?_) L1 [] (fr.get J) A [] 0 none ur AY YW trivial rfl (fun e he=>by cases he) ⟨(fun e he=>by cases he),(fun e he=>by cases he)⟩ (fun k o hk=> .inr ?_) (fun _=> .inr hl) ops.length (Array.replicate ops.length false) β a _ (by simp) aH1 hpj
    ·exact aZ3 ok aY (ka zp) Ho hg _ (fin res h) C6 listed cT a2 w2 q1 q2 q3
    ·have:=B1 _ ops 0 TB k o hk;rw[Nat.zero_add,Bool.or_eq_true,xf,Bool.not_eq_true'] at this;rcases this with h1|⟨h1,h2⟩
     ·exact .inl (E4 h1)
     ·exact .inr ⟨fun e=>by rw[l4,e] at h1;simp at h1,h2⟩
   ·cases h
  ·cases h
omit aY in
theorem aZ0{n:Nat}{d:List Oper→Fr→AW→aZ Fr}(hd:tE P E n d):tE P E n (PD E d):=by
 intro ro w0 ops fr A bh β a w id h hf inv;unfold PD at h;split at h
 ·exact hd _ _ _ _ _ _ _ _ _ _ h hf inv
 ·rename_i nd r ht;split at h
  ·rename_i k t hk ha;split at h
   ·rename_i u A1 kN;have i1:=inv.pop (r:=r) (fun x hx=>by rw[ht];exact xo _ hx);obtain⟨aO,i2,g1,n1,f1⟩:=yf ok (w0:=w0) (w:=w) 4 _ _ u A1 β kN i1;have aR:=i1.fY g1;have bx:bX aO n ((fr.set t u).get J) a.tmps:=⟨hf.1,fun i=>by
     by_cases Nx:t=i
     ·subst Nx;rcases T.wT J fr t u with e|⟨e,_⟩
      ·rw[e];exact f1 aO (ah.ca _ _) _ ((hf.2 t).mono aR)
      ·rw[e];exact .j9 _
     ·rw[T.uN J fr t i u Nx];exact(hf.2 i).mono aR⟩
    have hn:A.next≤A1.next:=Nat.le_of_eq n1.symm;exact Code.wpIn_mono (fun e a' w' hh=>⟨hh.1,hh.2.mono g1 hn (fun c hc=>hc)⟩) (hd ro w0 ops _ A1 bh aO a w id h bx i2)
   ·cases h
  ·exact hd _ _ _ _ _ _ _ _ _ _ h hf inv
theorem Cg{hR:cL→List xM→AW→aZ xM}(uu:fN P E hR)(aP depth:Nat):fN P E (qC E sq (tQ E sq) hR aP depth):=W9 ok aY (fun _ n hc=>Ya ok aY hc n) uu aP depth
end
def aa0(_:cL)(_:List xM)(_:AW):aZ xM:=none
theorem bj0(P:Program)(E:av):fN P E aa0:=fun _ _ _ _ _ _ _ _ h=>by cases h
def rC(a b:xM):Bool:=
 match a,b with
 | .func (.func f) ⟨p⟩ ⟨q⟩,.func (.func f') ⟨p'⟩ ⟨q'⟩=>Nat.beq f f'&&lm p p'&&lm q q'
 | .agg ⟨x⟩,.agg ⟨y⟩=>lm x y
 | .tuple ⟨x⟩,.tuple ⟨y⟩=>lm x y
 |a,b=>pC a b
theorem JQ{a b:xM}(h:rC a b=true):a=b:=by
 unfold rC at h;split at h
 ·simp only [xf] at h;rw[xb h.1.1,lQ _ _ h.1.2,lQ _ _ h.2]
 ·rw[lQ _ _ h]
 ·rw[lQ _ _ h]
 ·exact uS h
def Ht(a:List xM):List xM→Bool:=
 List.rec (motive:=fun _=>List xM→Bool) (fun b=>List.rec (motive:=fun _=>Bool) true (fun _ _ _=>false) b)
  (fun x _ ih b=>List.rec (motive:=fun _=>Bool) false (fun y t _=>bs (rC x y) (ih t) false) b) a
theorem Jt:∀(a b:List xM),Ht a b=true→a=b
 |[],[],_=>rfl
 |[],_::_,h=>by cases h
 |_::_,[],h=>by cases h
 |x::a,y::b,h=>by
  have h':bs (rC x y) (Ht a b) false=true:=h;cases hc:rC x y with
  |false=>rw[hc] at h';cases h'
  |true=>rw[hc,ek] at h';rw[JQ hc,Jt a b h']
def TO(a b:xM):Bool:=
 match a,b with
 | .tuple ⟨x⟩,.tuple ⟨y⟩=>Ht x y
 |a,b=>rC a b
theorem bv1{a b:xM}(h:TO a b=true):a=b:=by
 unfold TO at h;split at h
 ·rw[Jt _ _ h]
 ·exact JQ h
def TL(a:List MapEntry):List MapEntry→Bool:=
 List.rec (motive:=fun _=>List MapEntry→Bool) (fun b=>List.rec (motive:=fun _=>Bool) true (fun _ _ _=>false) b)
  (fun x _ ih b=>List.rec (motive:=fun _=>Bool) false (fun y t _=>bs (Nat.beq x.born y.born&&rC x.key y.key&&rC x.val y.val) (ih t) false) b) a
theorem X':∀(a b:List MapEntry),TL a b=true→a=b
 |[],[],_=>rfl
 |[],_::_,h=>by cases h
 |_::_,[],h=>by cases h
 |x::a,y::b,h=>by
  have h':bs (Nat.beq x.born y.born&&rC x.key y.key&&rC x.val y.val) (TL a b) false=true:=h;cases hc:(Nat.beq x.born y.born&&rC x.key y.key&&rC x.val y.val) with
  |false=>rw[hc] at h';cases h'
  |true=>
   rw[hc,ek] at h';simp only [xf] at hc;rw[X' a b h'];obtain⟨k,v,bn⟩:=x;obtain⟨k',v',bn'⟩:=y;have h1:=xb hc.1.1;have h2:=JQ hc.1.2;have h3:=JQ hc.2;simp only at h1 h2 h3;rw[h1,h2,h3]
def pM(a b:Bool):Bool:=bs a b (not b)
theorem tw{a b:Bool}(h:pM a b=true):a=b:=by cases a<;>cases b<;>first|rfl|cases h
def Sy(a:List Nat):List Nat→Bool:=
 List.rec (motive:=fun _=>List Nat→Bool) (fun b=>List.rec (motive:=fun _=>Bool) true (fun _ _ _=>false) b)
  (fun x _ ih b=>List.rec (motive:=fun _=>Bool) false (fun y t _=>bs (Nat.beq x y) (ih t) false) b) a
theorem XO:∀(a b:List Nat),Sy a b=true→a=b
 |[],[],_=>rfl
 |[],_::_,h=>by cases h
 |_::_,[],h=>by cases h
 |x::a,y::b,h=>by
  have h':bs (Nat.beq x y) (Sy a b) false=true:=h;rcases aB h' with⟨h1,h2⟩|⟨_,h2⟩
  ·rw[xb h1,XO a b h2]
  ·cases h2
def Sv(a b:Option Nat):Bool:=match a,b with|none,none=>true|some x,some y=>Nat.beq x y|_,_=>false
theorem br8{a b:Option Nat}(h:Sv a b=true):a=b:=by
 unfold Sv at h;split at h
 ·rfl
 ·rw[xb h]
 ·cases h
def TS(a b:ap):Bool:=
 match a,b with
 |⟨.cells x,e,ex,ro,ty⟩,⟨.cells y,e',kr,kg,iX⟩=>Ht x y&&Nat.beq e e'&&pM ex kr&&pM ro kg&&Nat.beq ty iX
 |⟨.map x c,e,ex,ro,ty⟩,⟨.map y c',e',kr,kg,iX⟩=>TL x y&&Nat.beq c c'&&Nat.beq e e'&&pM ex kr&&pM ro kg&&Nat.beq ty iX
 |⟨.iter m s l st,e,ex,ro,ty⟩,⟨.iter m' s' l' st',e',kr,kg,iX⟩=>Sv m m'&&Nat.beq s s'&&Sy l l'&&Nat.beq st st'&&Nat.beq e e'&&pM ex kr&&pM ro kg&&Nat.beq ty iX
 |_,_=>false
theorem bv5{a b:ap}(h:TS a b=true):a=b:=by
 unfold TS at h;split at h
 ·simp only [xf] at h;rw[Jt _ _ h.1.1.1.1,xb h.1.1.1.2,tw h.1.1.2,tw h.1.2,xb h.2]
 ·simp only [xf] at h;rw[X' _ _ h.1.1.1.1.1,xb h.1.1.1.1.2,xb h.1.1.1.2,tw h.1.1.2,tw h.1.2,xb h.2]
 ·simp only [xf] at h;obtain⟨⟨⟨⟨⟨⟨⟨h1,h2⟩,h3⟩,h4⟩,h5⟩,h6⟩,h7⟩,h8⟩:=h;rw[br8 h1,xb h2,XO _ _ h3,xb h4,xb h5,tw h6,tw h7,xb h8]
 ·cases h
def AL(a b:Option ap):Bool:=match a,b with|some x,some y=>TS x y|none,none=>true|_,_=>false
theorem XN{a b:Option ap}(h:AL a b=true):a=b:=by
 unfold AL at h;split at h
 ·rw[bv5 h]
 ·rfl
 ·cases h
def HE(a:T (Option ap)):T (Option ap)→Bool:=
 T.rec (motive:=fun _=>T (Option ap)→Bool) (fun b=>T.rec (motive:=fun _=>Bool) true (fun _ _ _ _ _=>false) b)
  (fun _ v _ tl tr b=>T.rec (motive:=fun _=>Bool) false (fun l' v' r' _ _=>bs (AL v v') (bs (tl l') (tr r') false) false) b) a
theorem PY:∀(a b:T (Option ap)),HE a b=true→a=b
 | .nil,.nil,_=>rfl
 | .nil,.node ..,h=>by cases h
 | .node ..,.nil,h=>by cases h
 | .node l v r,.node l' v' r',h=>by
  have h':bs (AL v v') (bs (HE l l') (HE r r') false) false=true:=h;cases h1:AL v v' with
  |false=>rw[h1] at h';cases h'
  |true=>
   rw[h1,ek] at h';cases h2:HE l l' with
   |false=>rw[h2] at h';cases h'
   |true=>
    rw[h2,ek] at h';rw[XN h1,PY l l' h2,PY r r' h']
def N4(a b:AW):Bool:=match a,b with|⟨h1,n1,[]⟩,⟨h2,n2,[]⟩=>Nat.beq n1 n2&&HE h1 h2|_,_=>false
theorem Y9{a b:AW}(h:N4 a b=true):a=b:=by
 unfold N4 at h;split at h
 ·rw[xf] at h;rw[xb h.1,PY _ _ h.2]
 ·cases h
def fill(k:Nat):List (Option ap)→T (Option ap):=
 Nat.rec (motive:=fun _=>List (Option ap)→T (Option ap)) (fun _=> .nil) (fun _ ih l=>List.rec (motive:=fun _=>T (Option ap)) (.node (ih []) none (ih [])) (fun a r _=> .node (ih (alt r true)) a (ih (alt r false))) l) k
def im(k:Nat)(l:List (Option ap)):AW:=⟨fill k l,bE l,[]⟩
structure jw where
 f:Nat
 args:List xM
 A:AW
 v:xM
 A':AW
def jw.hR(r:jw)(t:cL)(args:List xM)(A:AW):aZ xM:=
 match t with
 | .fn f=>bs (Nat.beq f r.f) (bs (Ht args r.args) (bs (N4 A r.A) (some [(r.v,r.A')]) none) none) none
 | .rd _=>none
 | .dy _=>none
def jw.wH(r:jw)(call:cL→List xM→AW→aZ xM):Bool:=
 match call (.fn r.f) r.args r.A with
 |some [(v,A)]=>TO v r.v&&N4 A r.A'
 |_=>false
theorem jw.ok{r:jw}{P:Program}{E:av}{call:cL→List xM→AW→aZ xM}(hc:fN P E call)(h:r.wH call=true):fN P E r.hR:=by
 intro w0 t args A bh β w args' ho inv il;have key:call t args A=some bh:=by
  unfold jw.hR at ho;split at ho
  ·rename_i f;replace ho:=aB ho;rcases ho with⟨e1,ho⟩|⟨_,ho⟩
   ·replace ho:=aB ho;rcases ho with⟨e2,ho⟩|⟨_,ho⟩
    ·replace ho:=aB ho;rcases ho with⟨e3,ho⟩|⟨_,ho⟩
     ·cases ho;rw[xb e1,Jt _ _ e2,Y9 e3];unfold jw.wH at h;split at h
      ·rename_i v A1 li;rw[xf] at h;rw[li,bv1 h.1,Y9 h.2]
      ·cases h
     ·cases ho
    ·cases ho
   ·cases ho
  ·cases ho
  ·cases ho
 exact hc w0 t args A bh β w args' key inv il
def oK(a b:cL→List xM→AW→aZ xM)(t:cL)(args:List xM)(A:AW):aZ xM:=match a t args A with|some o=>some o|none=>b t args A
theorem p6{P:Program}{E:av}{a b:cL→List xM→AW→aZ xM}(ha:fN P E a)(hb:fN P E b):fN P E (oK a b):=by
 intro w0 t args A bh β w args' ho inv il;unfold oK at ho;split at ho
 ·rename_i o hq;cases ho;exact ha w0 t args A bh β w args' hq inv il
 ·exact hb w0 t args A bh β w args' ho inv il
theorem IZ:∀(t:T (Option (Option Row))) (i:Nat) (r:Row),(join t).get none i=some r→t.get none i=some (some r)
 | .nil,i,r,h=>by cases h
 | .node l v q,i,r,h=>by
  have iy:∀x:Option Row,(T.node (join l) x (join q)).get none i=some r→(i=0∧x=some r)∨(i≠0∧(T.node l v q).get none i=some (some r)):=fun x hx=>by
   rw[T.jz] at hx;rw[T.jz];split at hx
   ·rename_i h0;exact .inl ⟨h0,hx⟩
   ·rename_i h0;refine .inr ⟨h0,?_⟩;rw[if_neg h0];split at hx
    ·rename_i h1;rw[if_pos h1];exact IZ l _ r hx
    ·rename_i h1;rw[if_neg h1];exact IZ q _ r hx
  cases v with
  |none=>
   rcases iy none h with⟨_,h2⟩|⟨_,h2⟩
   ·cases h2
   ·exact h2
  |some x=>
   rcases iy x h with⟨h1,h2⟩|⟨_,h2⟩
   ·rw[T.jz,if_pos h1,h2]
   ·exact h2
variable{P:Program}
theorem X1{t:xN}{i:TypeInfo}(h:P.types.toList[t]? =some i):P.info? t=some i:=by
 rw[Array.getElem?_toList] at h;have hl:=(Array.getElem?_eq_some_iff.1 h).1;show P.toTables.info? t=some i;unfold Tables.info?;rw[if_pos hl];exact h
theorem Yw{t:xN}{r:Row}{k:Nat}(h:(join (za k (ez (J2 P.types.toList) P.types.toList))).get none t=some r):
 ∃i d,P.info? t=some i∧Sg P.types.toList i.desc=some d∧r=⟨d,i.size,i.bytes,(Dh d i.zero).1,(Dh d i.zero).2⟩∧P.underlying t=some d:=by
 have h1:=EZ _ _ _ _ (IZ _ _ _ h);rw[kV,xx] at h1;obtain⟨i,hi,hr⟩:=xp.1 h1;unfold J2 at hr;split at hr
 ·rename_i d hd;cases hr;have aj1:=X1 hi;refine⟨i,d,aj1,hd,rfl,?_⟩;unfold Program.underlying;rw[aj1];unfold Sg at hd;obtain⟨ds,_⟩:=i;cases ds with
  |named nm u=>
   simp only [eL] at hd;split at hd
   ·rename_i j hj;cases hd;simp only [X1 hj,Option.map_some]
   ·cases hd
  |_=>cases hd;rfl
 ·cases hr
theorem WV{G:GP}{ne:List Nat}{lay:List (Nat×Nat×Nat)}{ib:List Nat}{mz:List (Nat×Nat)}(hm:P.follows .mixedOrders=true)(hn:∀fn∈P.funcs.toList,(fn.name== "runtime.NumGoroutine")=false)
 (bq:∀f,f∈ne→∀(x:xM) (w:World),(callFunc f #[x]).run P w= .ok (.value x) w)
 (hl:∀e u o,(e,u,o)∈lay→liesAt P P.depth e 1 o u 1=true) (ha:Nat.ble P.types.toList.length jY=true) (hq:∀δ nd,G.Q δ nd→dw δ nd) (hlx:∀w w':World,G.L w→(∀b,b<G.n→w'.heap[b]? =w.heap[b]?)→G.L w')
 (NF:∀f,f∈ib→∀(args:Array xM) (w:World),(callFunc f args).run P w=(do pure (.value (←Extern.BytealgIndexByte.indexByte args)):Sem Next).run P w) (H2:∀f t,(f,t)∈mz→∃ps,∀(args:Array xM) (w:World),(callFunc f args).run P w=(do pure (.value (←Extern.BytealgMakeNoZero.makeNoZero ps #[t] args)):Sem Next).run P w:=by intro f t h;cases h):(QS P G ne lay ib mz).Ok P:=by
 refine⟨hm,fun t r h=> ?_,fun f fn h=> ?_,fun t r i z h hi hz hiz=> ?_,bq,NF,H2,hl,fun r h=> ?_,hq,hlx⟩
 ·obtain⟨i,d,h1,h2,rfl,h4⟩:=Yw h;refine⟨h4,i,h1,rfl,rfl,fun hz=> ?_⟩;simp only at hz⊢;unfold Dh at hz⊢;split at hz
  ·rename_i l wi;refine⟨_,wi,?_⟩;cases hd:lU d with
   |true=>rfl
   |false=>rw[hd] at hz;cases hz
  ·cases hz
  ·rename_i v gA UP wi;refine⟨_,wi,?_⟩;cases hd:lU d with
   |true=>rw[hd] at hz;cases hz
   |false=>cases v<;>first|rfl|(exfalso;exact gA _ rfl)|(exfalso;exact UP _ rfl)
  ·cases hz
 ·have h1:=EZ _ _ _ _ (show(za 10 P.funcs.toList).get none f=some fn from h);exact⟨by rw[Array.getElem?_toList] at h1;exact h1,hn fn (xu h1)⟩
 ·obtain⟨i2,d,h1,h2,rfl,h4⟩:=Yw h;rw[hi] at h1;cases h1;simp only at hz⊢;rw[hiz] at hz⊢;unfold Dh at hz⊢;split at hz
  ·rename_i l wi;cases wi;cases d<;>first|(cases hz;done)|exact⟨rfl,fun e=>by cases e⟩
  ·cases hz
  ·rename_i v gA UP wi;cases wi;cases d<;>first|(cases hz;done)|(cases z<;>first|exact⟨rfl,fun _=>⟨_,rfl⟩⟩|(exfalso;exact gA _ rfl)|(exfalso;exact UP _ rfl))
  ·cases hz
 ·have h1:=EZ _ _ _ _ (IZ _ _ _ (show(join (za 11 (ez (J2 P.types.toList) P.types.toList))).get none jY=some r from h));have h2:=(xe.1 h1).1;rw[kV,xm] at h2;have:=xh ha;omega
open Go.RowKit Go.WideShapes
section
variable{P:Program}
def CD(P:Program)(g:xN→Option (List xO)):Nat→List Field→Option (List xO)
 |_,[]=>some []
 |o,f::fs=>if f.offset=o∧(f.name== "_")=false then
  (match g f.type with
  |some ks=>if ks.length=P.cellsOf f.type then(match CD P g (o+ks.length) fs with|some r=>some (ks++r)|none=>none) else none
  |none=>none)
  else none
def nw(P:Program):Nat→xN→Option (List xO)
 |0,_=>none
 |m+1,t=>
  match P.underlying t with
  |some (.int k)=>some [k]
  |some (.struct fs)=>if P.stoodInHeld t=false then CD P (nw P m) 0 fs.toList else none
  |some (.array n e)=>(match nw P m e with
   |some ks=>if ks.length=P.cellsOf e then some (List.replicate n ks).flatten else none
   |none=>none)
  |_=>none
def BH(P:Program)(t:xN)(a:List xM)(x:xM):Prop:=
 (∃k,P.underlying t=some (.int k)∧a=[x])∨(((∃fs,P.underlying t=some (.struct fs))∨∃n e,P.underlying t=some (.array n e))∧x= .agg ⟨a⟩)
theorem IX:∀(eA mM:List xO) (a b:List xM) (r:Bool),gF (eA++mM) a b=some r→
 ∃r1 r2,gF eA (a.take eA.length) (b.take eA.length)=some r1∧gF mM (a.drop eA.length) (b.drop eA.length)=some r2∧r=(r1&&r2)
 |[],mM,a,b,r,h=>⟨true,r,rfl,h,by simp⟩
 |k::eA,mM,a,b,r,h=>by
  have h':mB k (gF (eA++mM)) a b=some r:=h;clear h;unfold mB at h';split at h'
  ·rename_i j m a j' n b;replace h':=aB h';rcases h' with⟨hk,h'⟩|⟨_,h'⟩
   ·split at h'
    ·rename_i r' ej;obtain⟨r1,r2,h1,h2,rfl⟩:=IX eA mM a b r' ej;cases h';refine⟨bs (kI m n) r1 false,r2,?_,h2,?_⟩
     ·show mB k (gF eA) (.int j m::a.take eA.length) (.int j' n::b.take eA.length)=_;simp only [mB,hk,ek,h1]
     ·cases kI m n
      ·rw[gC,gC];rfl
      ·rw[ek,ek]
    ·cases h'
   ·cases h'
  ·cases h'
theorem EU:∀(ks:List xO) (a b:List xM) (r:Bool),gF ks a b=some r→a.length=ks.length∧b.length=ks.length
 |[],a,b,r,h=>by
  have h':n7 a b=some r:=h;unfold n7 at h';split at h'
  ·exact⟨rfl,rfl⟩
  ·cases h'
 |k::ks,a,b,r,h=>by
  have h':mB k (gF ks) a b=some r:=h;clear h;unfold mB at h';split at h'
  ·rename_i j m a j' n b;replace h':=aB h';rcases h' with⟨hk,h'⟩|⟨_,h'⟩
   ·split at h'
    ·rename_i r' ej;obtain⟨h1,h2⟩:=EU ks a b r' ej;exact⟨by simp[h1],by simp[h2]⟩
    ·cases h'
   ·cases h'
  ·cases h'
theorem bj8{k:xO}{a b:List xM}{r:Bool}(h:gF [k] a b=some r):∃m n,a=[.int k m]∧b=[.int k n]∧r=decide (m=n):=by
 have h':mB k n7 a b=some r:=h;clear h;unfold mB at h';split at h'
 ·rename_i j m a j' n b;replace h':=aB h';rcases h' with⟨hk,h'⟩|⟨_,h'⟩
  ·rw[xf] at hk;split at h'
   ·rename_i r' ej;unfold n7 at ej;split at ej
    ·cases ej;cases h';refine⟨m,n,by rw[pg hk.1],by rw[pg hk.2],?_⟩;rw[←mX];cases kI m n<;>rfl
    ·cases ej
   ·cases h'
  ·cases h'
 ·cases h'
theorem Ws:∀(eA mM:List xO) (a:List xM),gF (eA++mM) a a=some true→gF eA (a.take eA.length) (a.take eA.length)=some true∧gF mM (a.drop eA.length) (a.drop eA.length)=some true:=by
 intro eA mM a h;obtain⟨r1,r2,h1,h2,h3⟩:=IX eA mM a a true h;cases r1<;>cases r2<;>first|exact⟨h1,h2⟩|cases h3
theorem OI{m:Nat}{e:xN}{ks:List xO}(hk:nw P m e=some ks):∃d i,P.underlying e=some d∧P.info? e=some i:=by
 cases m with
 |zero=>cases hk
 |succ m=>
  unfold nw at hk;cases hu:P.underlying e with
  |none=>simp[hu] at hk
  |some d=>
   obtain⟨i,hi⟩:=info_of_underlying hu;exact⟨d,i,rfl,hi⟩
theorem EL(w:World){m:Nat}{e:xN}{ks:List xO}(hk:nw P m e=some ks)(hl:ks.length=P.cellsOf e)(xs:Array xM)(off:Nat)(aF:off+ks.length≤xs.size):
 ∃x,(part e xs off).run P w= .ok x w∧BH P e ((xs.toList.drop off).take ks.length) x:=by
 obtain⟨d,i,hu,hi⟩:=OI hk;have hx:(xs.extract off (off+P.cellsOf e)).toList=(xs.toList.drop off).take (P.cellsOf e):=by
  rw[Array.toList_extract];simp[List.extract]
 have ot:(⟨(xs.toList.drop off).take ks.length⟩:Array xM)=xs.extract off (off+P.cellsOf e):=by
  rw[hl,←hx]
 cases m with
 |zero=>cases hk
 |succ m=>
  unfold nw at hk;rw[hu] at hk;cases d with
  |int k=>
   cases hk;have hs:off<xs.size:=by simp only [List.length_singleton] at aF;omega
   refine⟨xs[off],run_part_plain w (by simp[Program.plainKey,hu]) (by simp[hs]),.inl ⟨k,hu,?_⟩⟩;rw[List.length_singleton,List.drop_eq_getElem_cons (by simpa using hs)];simp
  |struct fs=>
   refine⟨.agg (xs.extract off (off+P.cellsOf e)),by simp[part,isAgg,run_underlying hu,run_sizeOf w hi],.inr ⟨.inl ⟨_,hu⟩,by rw[ot]⟩⟩
  |array n e'=>
   refine⟨.agg (xs.extract off (off+P.cellsOf e)),by simp[part,isAgg,run_underlying hu,run_sizeOf w hi],.inr ⟨.inr ⟨_,_,hu⟩,by rw[ot]⟩⟩
  |_=>cases hk
def QA(P:Program)(dd:Nat)(t:xN)(ks:List xO):Prop:=
 ∀w x y a b r,BH P t a x→BH P t b y→gF ks a b=some r→(Op.equalIn dd t x y).run P w= .ok r w
def bw6(P:Program)(em:Bool)(dd:Nat)(t:xN)(ks:List xO):Prop:=
 ∀w x a,BH P t a x→gF ks a a=some true→(Instr.checkKey em dd t x).run P w= .ok () w
theorem Vv{m dd:Nat}(IH:∀t ks,nw P m t=some ks→QA P dd t ks)(w:World)(xs ys:Array xM):∀(fs:List Field) (o:Nat) (ks:List xO) (r:Bool),CD P (nw P m) o fs=some ks→
 o≤xs.size→o≤ys.size→gF ks (xs.toList.drop o) (ys.toList.drop o)=some r→(Op.eqFields dd xs ys fs).run P w= .ok r w
 |[],o,ks,r,hf,hx,hy,hr=>by
  cases hf;have h':n7 (xs.toList.drop o) (ys.toList.drop o)=some r:=hr;unfold n7 at h';split at h'
  ·cases h';simp[Op.eqFields]
  ·cases h'
 |f::fs,o,ks,r,hf,hx,hy,hr=>by
  unfold CD at hf;split at hf
  ·rename_i hc;split at hf
   ·rename_i eA eS;split at hf
    ·rename_i hl;split at hf
     ·rename_i mM js;cases hf;obtain⟨r1,r2,h1,h2,rfl⟩:=IX eA mM _ _ r hr;obtain⟨l1,l2⟩:=EU _ _ _ _ h1;simp only [xz,List.length_drop,Array.length_toList] at l1 l2;have ox:o+eA.length≤xs.size:=by omega
      have oy:o+eA.length≤ys.size:=by omega
      obtain⟨x,px,vx⟩:=EL w eS hl xs o ox;obtain⟨y,py,vy⟩:=EL w eS hl ys o oy;have e1:=IH _ _ eS w x y _ _ r1 vx vy h1;have hn:f.name≠ "_":=fun e=>by rw[e] at hc;exact absurd hc.2 (by simp)
      rw[List.drop_drop,List.drop_drop] at h2;have e2:=Vv IH w xs ys fs (o+eA.length) mM r2 js ox oy h2;rw[←hc.1] at px py;simp only [Op.eqFields,hn,ne_eq,not_false_eq_true,if_true,Sem.run_bind,px,py,e1,Result.andThen_ok];cases r1
      ·simp
      ·simpa using e2
     ·cases hf
    ·cases hf
   ·cases hf
  ·cases hf
theorem VD{m dd:Nat}{e:xN}{ks:List xO}(hk:nw P m e=some ks)(hl:ks.length=P.cellsOf e)(IH:QA P dd e ks)(w:World)(xs ys:Array xM):∀(n s:Nat) (r:Bool),
 gF (List.replicate n ks).flatten (xs.toList.drop (s*ks.length)) (ys.toList.drop (s*ks.length))=some r→(Op.eqItems dd e (P.cellsOf e) xs ys (List.range' s n)).run P w= .ok r w
 |0,s,r,hr=>by
  have h':n7 (xs.toList.drop (s*ks.length)) (ys.toList.drop (s*ks.length))=some r:=hr;unfold n7 at h';split at h'
  ·cases h';simp[Op.eqItems]
  ·cases h'
 |n+1,s,r,hr=>by
  rw[List.replicate_succ,List.flatten_cons] at hr;obtain⟨r1,r2,h1,h2,rfl⟩:=IX ks _ _ _ r hr;obtain⟨l1,l2⟩:=EU _ _ _ _ h1;simp only [xz,List.length_drop,Array.length_toList] at l1 l2;have uj:∀zs:Array xM,min ks.length (zs.size - s*ks.length)=ks.length→∃z,(part e zs (s*P.cellsOf e)).run P w= .ok z w∧BH P e ((zs.toList.drop (s*ks.length)).take ks.length) z:=fun zs hz=>by
   by_cases h0:s*ks.length+ks.length≤zs.size
   ·have:=EL w hk hl zs (s*ks.length) h0;rw[←hl];exact this
   ·have jt:ks.length=0:=by omega
    exfalso;have:ks=[]:=xE.1 jt;subst this;simp at h0
  obtain⟨x,px,vx⟩:=uj xs l1;obtain⟨y,py,vy⟩:=uj ys l2;have e1:=IH w x y _ _ r1 vx vy h1;rw[List.drop_drop,List.drop_drop,←Nat.succ_mul] at h2;have e2:=VD hk hl IH w xs ys n (s+1) r2 h2;simp only [List.range'_succ,Op.eqItems,Sem.run_bind,px,py,e1,Result.andThen_ok];cases r1
  ·simp
  ·simpa using e2
theorem PH(d:Nat):∀(m:Nat) (t:xN) (ks:List xO),nw P m t=some ks→QA P (d+m) t ks
 |0,_,_,h=>by cases h
 |m+1,t,ks,hk=>by
  intro w x y a b r vx vy hr;unfold nw at hk;cases hu:P.underlying t with
  |none=>simp[hu] at hk
  |some kd=>
   rw[hu] at hk;have agg:(∀k,kd≠ .int k)→x= .agg ⟨a⟩∧y= .agg ⟨b⟩:=fun bq=>by
    have one:∀z c,BH P t c z→z= .agg ⟨c⟩:=fun z c hv=>by
     rcases hv with⟨k,h1,_⟩|⟨_,h⟩
     ·rw[hu] at h1;cases h1;exact absurd rfl (bq k)
     ·exact h
    exact⟨one x a vx,one y b vy⟩
   cases kd with
   |int k=>
    cases hk;obtain⟨m1,n1,rfl,rfl,rfl⟩:=bj8 hr;have one:∀z n,BH P t [.int k n] z→z= .int k n:=fun z n hv=>by
     rcases hv with⟨_,_,h2⟩|⟨h|h,_⟩
     ·simpa using h2.symm
     ·obtain⟨_,h⟩:=h;rw[hu] at h;cases h
     ·obtain⟨_,_,h⟩:=h;rw[hu] at h;cases h
    rw[one x m1 vx,one y n1 vy,show d+(m+1)=(d+m)+1 from rfl,run_equalIn_int w (d+m) t k k m1 n1 hu]
    congr 1
   |struct fs=>
    obtain⟨rfl,rfl⟩:=agg (fun k e=>by cases e);simp only at hk;split at hk
    ·rename_i hs;have hfs:P.fieldsOf t=fs:=by simp[Program.fieldsOf,hu]
     rw[show d+(m+1)=(d+m)+1 from rfl,run_equalIn_struct w (d+m) t _ _ (by rw[hfs];exact hu) hs,hfs];exact Vv (fun t ks h=>PH d m t ks h) w ⟨a⟩ ⟨b⟩ fs.toList 0 ks r hk (xL _) (xL _) hr
    ·cases hk
   |array n e=>
    obtain⟨rfl,rfl⟩:=agg (fun k e=>by cases e);simp only at hk;split at hk
    ·rename_i eA eS;split at hk
     ·rename_i hl;cases hk;obtain⟨_,i,_,hi⟩:=OI eS;rw[show d+(m+1)=(d+m)+1 from rfl,run_equalIn_array w (d+m) ⟨a⟩ ⟨b⟩ hu hi,List.range_eq_range'];exact VD eS hl (PH d m e eA eS) w ⟨a⟩ ⟨b⟩ n 0 r (by simpa using hr)
     ·cases hk
    ·cases hk
   |_=>cases hk
theorem OY(em:Bool)(d:Nat):∀(m:Nat) (t:xN) (ks:List xO),nw P m t=some ks→bw6 P em (d+m) t ks
 |0,_,_,h=>by cases h
 |m+1,t,ks,hk=>by
  intro w x a vx hr;unfold nw at hk;cases hu:P.underlying t with
  |none=>simp[hu] at hk
  |some kd=>
   rw[hu] at hk;have agg:(∀k,kd≠ .int k)→x= .agg ⟨a⟩:=fun bq=>by
    rcases vx with⟨k,h1,_⟩|⟨_,h⟩
    ·rw[hu] at h1;cases h1;exact absurd rfl (bq k)
    ·exact h
   cases kd with
   |int k=>
    rw[show d+(m+1)=(d+m)+1 from rfl,Instr.checkKey];simp only [Sem.run_bind,run_underlying hu,Result.andThen_ok];rfl
   |struct fs=>
    obtain rfl:=agg (fun k e=>by cases e);simp only at hk;split at hk
    ·rw[show d+(m+1)=(d+m)+1 from rfl,Instr.checkKey];simp only [Sem.run_bind,run_underlying hu,Result.andThen_ok];rw[←Array.forIn_toList];have go:∀(L:List Field) (o:Nat) (ks:List xO),CD P (nw P m) o L=some ks→o≤a.length→gF ks (a.drop o) (a.drop o)=some true→
      (forIn L PUnit.unit fun f (_:PUnit)=>(if f.name≠ "_" then(do
       let y←part f.type ⟨a⟩ f.offset
       Instr.checkKey em (d+m) f.type y
       pure (ForInStep.yield PUnit.unit)) else pure (ForInStep.yield PUnit.unit):Sem (ForInStep PUnit))).run P w= .ok PUnit.unit w:=by
      intro L
      induction L with
      |nil=>intro o ks _ _ _;simp
      |cons f L ih=>
       intro o ks hf ho hr;unfold CD at hf;split at hf
       ·rename_i hc;split at hf
        ·rename_i eA eS;split at hf
         ·rename_i hl;split at hf
          ·rename_i mM js;cases hf;obtain⟨h1,h2⟩:=Ws eA mM _ hr;obtain⟨l1,_⟩:=EU _ _ _ _ h1;simp only [xz,List.length_drop] at l1;have ox:o+eA.length≤a.length:=by omega
           obtain⟨y,py,vy⟩:=EL w eS hl ⟨a⟩ o (by simpa using ox);have e1:=OY em d m _ _ eS w y _ vy h1;have hn:f.name≠ "_":=fun e=>by rw[e] at hc;exact absurd hc.2 (by simp)
           rw[List.drop_drop] at h2;have e2:=ih (o+eA.length) mM js ox h2;rw[←hc.1] at py;simp only [List.forIn_cons,Sem.run_bind,hn,ne_eq,not_false_eq_true,if_true,Result.andThen_ok,py,e1,Sem.run_pure];exact e2
          ·cases hf
         ·cases hf
        ·cases hf
       ·cases hf
     rw[go fs.toList 0 ks hk (xL _) hr];rfl
    ·cases hk
   |array n e=>
    obtain rfl:=agg (fun k e=>by cases e);simp only at hk;split at hk
    ·rename_i eA eS;split at hk
     ·rename_i hl;cases hk;obtain⟨_,i,_,hi⟩:=OI eS;rw[show d+(m+1)=(d+m)+1 from rfl,Instr.checkKey];simp only [Sem.run_bind,run_underlying hu,Result.andThen_ok];simp only [Std.Legacy.Range.forIn_eq_forIn_range',Std.Legacy.Range.size,Nat.sub_zero,Nat.add_one_sub_one,Nat.div_one];have go:∀(n s:Nat),gF (List.replicate n eA).flatten (a.drop (s*eA.length)) (a.drop (s*eA.length))=some true→
       (forIn (List.range' s n) PUnit.unit fun i (_:PUnit)=>(do
        Instr.checkKey em (d+m) e (←part e ⟨a⟩ (i*(←sizeOf e)))
        pure (ForInStep.yield PUnit.unit):Sem (ForInStep PUnit))).run P w= .ok PUnit.unit w:=by
       intro n
       induction n with
       |zero=>intro s _;simp
       |succ n ih=>
        intro s hr;rw[List.replicate_succ,List.flatten_cons] at hr;obtain⟨h1,h2⟩:=Ws eA _ _ hr;obtain⟨l1,_⟩:=EU _ _ _ _ h1;simp only [xz,List.length_drop] at l1;have ox:s*eA.length+eA.length≤a.length:=by
         rcases xI eA.length with h0|h0
         ·rw[h0];simp
         ·omega
        obtain⟨y,py,vy⟩:=EL w eS hl ⟨a⟩ (s*eA.length) (by simpa using ox);have e1:=OY em d m _ _ eS w y _ vy h1;rw[List.drop_drop,←Nat.succ_mul] at h2;have e2:=ih (s+1) h2;rw[hl] at py;simp only [List.range'_succ,List.forIn_cons,Sem.run_bind,run_sizeOf w hi,Result.andThen_ok,py,e1,Sem.run_pure];exact e2
      rw[go n 0 (by simpa using hr)];rfl
     ·cases hk
    ·cases hk
   |_=>cases hk
def Mf:List xO→List xO→Bool
 |[],[]=>true
 |a::l,b::r=>dq a b&&Mf l r
 |_,_=>false
theorem XV:∀a b,Mf a b=true→a=b
 |[],[],_=>rfl
 |[],_::_,h=>by cases h
 |_::_,[],h=>by cases h
 |a::l,b::r,h=>by
  unfold Mf at h;rw[xf] at h;rw[pg h.1,XV l r h.2]
def az0(P:Program)(p:Nat×List xO):Bool:=
 (match nw P 4 p.1 with|some ks=>Mf ks p.2|none=>false)&&not (P.eqGuardType P.depth p.1)&&
  (match P.underlying p.1 with|some (.struct _)=>true|some (.array _ _)=>true|_=>false)
theorem Yt{E:av}{sq:List (Nat×List xO)}(h:eo (az0 P) sq=true):E.Seq P sq:=by
 have mem:∀(l:List (Nat×List xO)) t ks,qe l t=some ks→(t,ks)∈l:=by
  intro l
  induction l with
  |nil=>intro t ks e;cases e
  |cons p l ih=>
   intro t ks e;have e':bs (Nat.beq p.1 t) (some p.2) (qe l t)=some ks:=e;rcases aB e' with⟨h1,h2⟩|⟨_,h2⟩
   ·obtain⟨u,v⟩:=p;have:=xb h1;simp only at this h2;cases h2;rw[this];exact xn
   ·exact xo _ (ih t ks h2)
 have MJ:∀t ks,qe sq t=some ks→nw P 4 t=some ks∧P.eqGuardType P.depth t=false∧((∃fs,P.underlying t=some (.struct fs))∨∃n e,P.underlying t=some (.array n e)):=fun t ks e=>by
  have h1:=mq _ _ h _ (mem sq t ks e);unfold az0 at h1;simp only [xf,Bool.not_eq_true'] at h1;obtain⟨⟨h2,h3⟩,h4⟩:=h1;refine⟨?_,h3,?_⟩
  ·split at h2
   ·rename_i ks' hk;rw[hk,XV _ _ h2]
   ·cases h2
  ·split at h4
   ·exact .inl ⟨_,by assumption⟩
   ·exact .inr ⟨_,_,by assumption⟩
   ·cases h4
 refine⟨fun t ks a b r e hr w=> ?_,fun t ks e=>(MJ t ks e).2.1,fun t ks e=> ?_,fun t ks a e hr em w=> ?_⟩
 ·obtain⟨h1,_,h3⟩:=MJ t ks e;exact PH 9996 4 t ks h1 w _ _ a b r (.inr ⟨h3,rfl⟩) (.inr ⟨h3,rfl⟩) hr
 ·rcases(MJ t ks e).2.2 with⟨_,h⟩|⟨_,_,h⟩
  ·exact⟨_,h⟩
  ·exact⟨_,h⟩
 ·obtain⟨h1,_,h3⟩:=MJ t ks e;exact OY em 9996 4 t ks h1 w _ a (.inr ⟨h3,rfl⟩) hr
end
end
end Go.Ex
