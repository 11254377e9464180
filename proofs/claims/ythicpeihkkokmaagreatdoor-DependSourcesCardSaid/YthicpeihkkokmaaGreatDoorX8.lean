/- A verified evaluator of Go functions. -/
import Derived.Test.YthicpeihkkokmaaGreatDoorX7
import Derived.DeepKeys3
import Derived.ProofKit
import Derived.Stop.Joined
import GoSem.ClaimJoined
import Derived.MakeChecks
set_option linter.unusedVariables false
set_option linter.unusedSimpArgs false
namespace Go.Ex
variable{g0 g:Gt}{tr:List Tr}{P:Program}{E:au}{w0 w w':World}{n:Nat}{ops:a0o}{β0 β:af}{A0 A A':AW}{ds:List Deferred}{ro:a0r}{aY:List fZ}{listed:Array Bool}{t:xN}{a b:Option aE}{L:World->Prop}{nd:Node}
open Go.RowKit
noncomputable section
theorem K3{D D':Nat->Prop}{g0:Gt}:∀{tr:List Tr},(∀x∈tr,D x.i↔D' x.i)->gv D tr g0=gv D' tr g0
 |[],_=>rfl
 |x::tr,h=>by
  have ih:=K3 (g0:=g0) (tr:=tr) (fun y hy=>h y (xo _ hy));rw[gv,gv,ih]
  grind
theorem aB6{D:Nat->Prop}{x:Tr}(h:D x.i):gv D (x::tr) g0=iT (gv D tr g0) x.dst x.v:=by rw[gv,if_pos h]
theorem VY{D:Nat->Prop}{x:Tr}(h: ¬D x.i):gv D (x::tr) g0=gv D tr g0:=by rw[gv,if_neg h]
def PN(A:AW)(aY:List fZ):Prop:=(∀e∈aY,∀N b,e.nb=some (N,b)->N<A.next)/\(∀e∈aY,∀e'∈aY,∀N b b',e.nb=some (N,b)->e'.nb=some (N,b')->e.i=e'.i)/\∀e∈aY,∀e'∈aY,e.i=e'.i->e=e'
theorem Oe{ops:a0o}{D:Nat->Prop}:∀{tr:List Tr},oa ops tr->(∃x∈tr,¬D x.i)->∃x∈tr,¬D x.i/\∃o,ops[x.i]? =some o/\∀e∈o.after.toList,Region.binds .any e=true->D e.on
 |[],_,⟨x,hx,_⟩=>by cases hx
 |y::tr,⟨h1,h2,o,ho,hd,he⟩,⟨x,hx,hn⟩=>by
  by_cases I5:∃z∈tr,¬D z.i
  ·obtain⟨z,hz,h⟩:=Oe h1 I5
   grind
  grind
theorem Pk{E:au}{ops:a0o}:∀(L:a0g) (bL e0:Nat),wW E ops L bL (some e0)=true->bit bL e0=true->∀i∈L,∃e,(e=e0\/e∈L)/\e≠i/\bit (gK ops i) e=true
 |[],_,_,_,_,i,hi=>by cases hi
 |k::L,bL,e0,h,he0,i,hi=>by
  have h':Ce E ops (wW E ops L) k bL (some e0)=true:=h;clear h;unfold Ce at h';split at h'
  ·cases h'
  ·rename_i o ho;simp only [xf,Bool.not_eq_true'] at h';obtain⟨⟨⟨hk,gA⟩,hb⟩,oL⟩:=h';have bq:e0≠k:=fun e=>a0D
   cases hi with
   |head=>grind
   |tail _ hi=>
    have am7:∀q,bit (Nat.lor bL (Nat.pow 2 k)) q=(bit bL q||decide (k=q)):=fun q=>by
     rw[uE,uE];show(bL|||2^k).testBit q=_
     grind
    cases gU:Nat.ble 2 (gQ E o.op) with
    |true=>
     rw[gU,eQ] at oL;obtain⟨e,h1,h2,h3⟩:=Pk L _ k oL a0D i hi
     grind
    |false=>
     rw[gU,ku] at oL;obtain⟨e,h1,h2,h3⟩:=Pk L _ e0 oL a0D i hi
     grind
section
variable(ok:E.Ok P){sq:a0c}(aR:E.Seq P sq)(hs:Ew ops)(mQ:∀o∈ops,∀d,o.dst=some d->d<n)
 {call:eL->a0e->AW->bp xM} (hc:lE P E call)
theorem aY1{D:Nat->Prop}{β':af}{a:Act}(mQ:∀o∈ops,∀d,o.dst=some d->d<n)(j:PJ w0 E n ops g0 β0 A0 ds D β A aY tr a w)
 {i:Nat} {o:Oper} (ho:ops[i]? =some o) (yb:∀x∈tr,x.i≠i) (CG:∀e∈aY,e.i≠i) (hr:∀ed∈o.after.toList,Region.binds .any ed=true->D ed.on) {v v':xM} (hv:aj β' v v') (bZ:Inv w0 E.G β' A' w') (mu:β.grow β' A.next) (hn:A.next<=A'.next):
 PJ w0 E n ops g0 β0 A0 ds (fun x=>D x\/x=i) β' A' (jF (fun e=>not (bit (gK ops i) e.i)) aY) (⟨i,o.dst,v⟩::tr) (a.put o.dst v') w':=by
 have hnD: ¬D i:=fun h=>by grind [j.only]
 have aK:=j.inv.gC mu;refine⟨fun k ok hk hd ed UH hb=> ?_,fun x hx o' jo hk=> ?_,fun x hx j4=> ?_,fun k hk=> ?_,?_,bZ,fun e he bq N blk vu=> ?_,af.iP j.grow mu j.cW,xH j.cW hn,?_⟩
 ·rcases hd with hd|hd
  ·exact .inl (j.qx k ok hk hd ed UH hb)
  grind
 ·cases hx with
  |head=>grind
  |tail _ hx=>exact .inl (j.MK x hx o' jo hk)
 ·cases hx with
  |head=>grind
  |tail _ hx=>
   obtain⟨e,he,CM⟩:=j.un x hx (fun h=>j4 (.inl h));refine⟨e,?_,CM⟩;rw[vN,List.mem_filter];refine⟨he,?_⟩;cases hb:bit (gK ops i) e.i with
   |false=>rfl
   |true=>
    rcases Di j.qx ho hr hb with h1|h1
    ·grind
    grind
 ·grind [hk,xo,xn,j.only,hk.symm]
 ·rw[aB6 (x:=⟨i,o.dst,v⟩) (.inr rfl),K3 (D':=D) (fun x hx=>⟨fun h=>h.resolve_right (yb x hx),.inl⟩)];exact(j.frame.mono aK).iT (fun d hd=>mQ o (xu ho) d hd) hv
 ·grind [vN,xK,j.fresh,mu.f,mu.o]
 ·cases o.dst<;>exact j.defers
theorem bc6{D:Nat->Prop}{a:Act}(j:PJ w0 E n ops g0 β0 A0 ds D β A aY tr a w)
 {i:Nat} {o:Oper} (hk:gQ E o.op<=1) (ho:ops[i]? =some o) (yb:∀x∈tr,x.i≠i) {e:fZ} (CM:e.i=i) {v:xM} (hA:A'=A\/(∃blk,r7 blk/\A'=A.add blk)\/∃r,(∀nd∈r,nd∈A.tape)/\A'=A.pop r) (vu:∀N b,e.nb=some (N,b)->N=A.next/\A.next<A'.next):
 PJ w0 E n ops g0 β0 A0 ds D β A' (e::aY) (⟨i,o.dst,v⟩::tr) a w:=by
 have hnD: ¬D i:=fun h=>by grind [j.only]
 have hn:A.next<=A'.next:=by
  rcases hA with rfl|⟨blk,_,rfl⟩|⟨r,_,rfl⟩
  ·grind
  ·exact Nat.le_succ _
  ·exact xk _
 have hon:β.o A.next=none:=by
  cases hc:β.o A.next with
  |none=>rfl
  |some l=>exact absurd (j.inv.iB _ l hc) (Nat.lt_irrefl _)
 have Ao:β A.next=none:=by
  cases hc:β A.next with
  |none=>rfl
  |some l=>exact absurd (j.inv.fI _ l hc) (Nat.lt_irrefl _)
 refine⟨j.qx,fun x hx o' jo fM=> ?_,fun x hx j4=> ?_,fun k fM=> ?_,?_,?_,fun e' bT bq N blk SG=> ?_,j.grow,xH j.cW hn,j.defers⟩
 ·grind [j.MK]
 ·grind [xn,xo,j.un]
 ·grind [xo,j.only]
 ·rw[VY (x:=⟨i,o.dst,v⟩) hnD];exact j.frame
 ·rcases hA with rfl|⟨blk,hp,rfl⟩|⟨r,hr,rfl⟩
  ·exact j.inv
  ·exact j.inv.Ke blk hp
  ·exact j.inv.pop hr
 ·cases bT with
  |head=>
   obtain⟨rfl,h2⟩:=vu N blk SG
   grind [j.cW]
  |tail _ bT=>
   obtain⟨h1,h2,h3⟩:=j.fresh e' bT bq N blk SG
   grind
def sZ(N:Nat)(listed:Array Bool):Nat:=((List.range N).filter fun k=> !listed.getD k false).length
theorem AJ{N:Nat}{i:Nat}(hi:i<N)(aS:listed.size=N)(hl:listed.getD i false=false):sZ N (listed.setIfInBounds i true)<sZ N listed:=by
 unfold sZ;have:(List.range N).filter (fun k=> !(listed.setIfInBounds i true).getD k false)=((List.range N).filter fun k=> !listed.getD k false).filter (fun k=>decide (k≠i)):=by
  rw[List.filter_filter];apply List.filter_congr;intro k _;by_cases hk:k=i
  ·simp_all
  ·rw[getD_set_ne false (Ne.symm hk)];simp[hk]
 rw[this,List.length_filter_lt_length_iff_exists]
 grind
theorem Lg{i:Nat}(hi:i<listed.size):(fun k=>(listed.setIfInBounds i true).getD k false=true)=(fun k=>listed.getD k false=true\/k=i):=by
 funext k
 apply propext;by_cases hk:k=i
 ·simp_all
 ·rw[getD_set_ne false (Ne.symm hk)];simp[hk]
end
section
variable(ok:E.Ok P){sq:a0c}(aR:E.Seq P sq)(hs:Ew ops)(mQ:∀o∈ops,∀d,o.dst=some d->d<n)
 {call:eL->a0e->AW->bp xM} (hc:lE P E call)
theorem JP{listed:Array Bool}{i:Nat}{o:Oper}(ho:ops[i]? =some o)(aS:listed.size=ops.length)(hn: ¬listed.getD i false=true)(hr:∀e∈o.after.toList,Region.binds .any e=true->listed.getD e.on false=true):i∈Region.ready .any ⟨ops⟩ listed:=by
 rw[mem_ready]
 grind
theorem Df{i:Nat}(aS:listed.size=ops.length)(h:i∈Region.ready .any ⟨ops⟩ listed):∃o,ops[i]? =some o/\ ¬listed.getD i false=true/\∀e∈o.after.toList,Region.binds .any e=true->listed.getD e.on false=true:=by
 rw[mem_ready] at h
 grind
theorem aG4{op:Op}{v:xM}(hk:gQ E op=1)(h:aV E sq A g op= .val v A'):∃blk,r7 blk/\A'=A.add blk:=by
 cases hp:wa op with
 |true=>cases op<;>simp only [gQ,wa] at hk hp<;>first|(cases hp;done)|(cases hk;done)
 |false=>
  cases op<;>simp only [gQ,hp] at hk<;>try(cases hk;done)
  case convert s d x=>grind
  case alloc t=>
   simp only [aV] at h;have h:=lX h;unfold y9 at h;split at h
   ·replace h:=ax h;rcases h with⟨_,h⟩|⟨_,h⟩<;>cases h
    exact⟨_,(fun c h=>by cases h),rfl⟩
   ·cases h
  case box t x=>
   simp only [aV] at h;have h:=lX h;unfold zT at h;split at h<;>cases h
   exact⟨_,(fun c h=>by cases h),rfl⟩
  case buildSlice t len ps=>
   obtain⟨ps⟩:=ps;simp only [aV] at h;have h:=lX h;unfold yx at h;split at h
   ·split at h
    ·replace h:=ax h;rcases h with⟨_,h⟩|⟨_,h⟩
     ·split at h<;>cases h
      exact⟨_,(fun c h=>by cases h),rfl⟩
     ·cases h
    ·cases h
   ·cases h
  case makeSlice t x y=>
   simp only [aV] at h;have h:=lX h;unfold yz at h;split at h
   ·split at h
    ·replace h:=ax h;rcases h with⟨_,h⟩|⟨_,h⟩<;>cases h
     exact⟨_,(fun c h=>by cases h),rfl⟩
    ·cases h
   ·cases h
  grind
theorem ON{ops:a0o}:∀(L:a0g) (bL:Nat) (tB:a0r),wW E ops L bL tB=true->∀i∈L,bit bL i=false
 |[],_,_,_,i,hi=>by cases hi
 |k::L,bL,tB,h,i,hi=>by
  have h':Ce E ops (wW E ops L) k bL tB=true:=h;clear h;unfold Ce at h';split at h'
  ·cases h'
  ·rename_i o ho;simp only [xf,Bool.not_eq_true'] at h';obtain⟨⟨⟨hk,_⟩,_⟩,oL⟩:=h';cases hi with
   |head=>exact hk
   |tail _ hi=>
    have:=ON L _ _ oL i hi;rw[uE] at this⊢
    simp_all
theorem PD(jZ:∀e∈aY,PE E sq β0.d ops g0 tr e):∀e∈aY,∃x∈tr,x.i=e.i:=fun e he=>by
 obtain⟨pre,x0,tl,Nj,CA,_⟩:=(jZ e he).ex
 grind
include ok aR hs mQ in
theorem aG7{res:List Tr×AW}(h:QL E sq aY g A tr=some res)(hw:oa ops tr)(jZ:∀e∈aY,PE E sq β0.d ops g0 tr e)(eI:PN A aY)(fB:∀k o,ops[k]? =some o->∃x∈tr,x.i=k)
 (Q:Exit->Act->World->Prop) (hQ:∀β a w,bU β n (gv (fun _=>True) res.1 g0) a.tmps->Inv w0 E.G β res.2 w->β0.grow β A0.next->A0.next<=res.2.next->a.defers=ds->Q .normal a w) (aU:Nat):
 ∀(listed:Array Bool) (β:af) (a:Act) (w:World),listed.size=ops.length->sZ ops.length listed<=aU->PJ w0 E n ops g0 β0 A0 ds (fun k=>listed.getD k false=true) β A aY tr a w->wpAnyIn (kw ro) 0 P .any ⟨ops⟩ Q aU listed a w:=by
 have h':bs (fq (qQ E sq A) aY) (some (tr,A)) none=some res:=h;clear h;replace h':=ax h';rcases h' with⟨Rx,h'⟩|⟨_,h'⟩
 ·cases h';have bg:=pn _ _ Rx;have fin:∀(listed:Array Bool) (β:af) (a:Act) (w:World),listed.size=ops.length->PJ w0 E n ops g0 β0 A0 ds (fun k=>listed.getD k false=true) β A aY tr a w->Region.ready .any ⟨ops⟩ listed=[]->Q .normal a w:=fun listed β a w aS j gA=>by
   have all:∀x∈tr,listed.getD x.i false=true:=fun x hx=>Classical.byContradiction fun hn=>by
    obtain⟨y,hy,Uz,o,ho,hr⟩:=Oe (D:=fun k=>listed.getD k false=true) hw ⟨x,hx,hn⟩;have:=JP ho aS Uz hr
    grind
   refine hQ β a w ?_ j.inv j.grow j.cW j.defers;have:=j.frame;rw[K3 (D':=fun _=>True) (fun x hx=>⟨fun _=>trivial,fun _=>all x hx⟩)] at this;exact this
  induction aU with
  |zero=>
   intro listed β a w aS Bv j;have gA:Region.ready .any ⟨ops⟩ listed=[]:=by
    cases hq:Region.ready .any ⟨ops⟩ listed with
    |nil=>rfl
    |cons i r=>
     obtain⟨o,ho,hn,_⟩:=Df (ops:=ops) (i:=i) aS a0D;have hi:=(xe.1 ho).1;have:=AJ hi aS a0D;omega
   exact⟨gA,fin listed β a w aS j gA⟩
  |succ aU ih=>
   intro listed β a w aS Bv j;refine⟨fun gA=>fin listed β a w aS j gA,fun i hi=> ?_⟩;obtain⟨o,ho,hn,hr⟩:=Df aS hi;have bk:=(xe.1 ho).1;obtain⟨x,hx,su⟩:=fB i o ho;obtain⟨e,he,CM⟩:=j.un x hx a0D;have SP:e.i=i:=CM.trans su;subst SP;have UG:e.o=o:=by have:=(jZ e he).op;rw[ho] at this;cases this;rfl
   subst UG;refine WY ok aR hs mQ hw j jZ eI.2.1 eI.2.2 he (bg e he) hn hr (fun β' a' w' j'=> ?_);rw[<-Lg a0D] at j';refine ih _ β' a' w' (by simp[aS]) ?_ j';have:=AJ bk aS a0D;omega
 ·cases h'
include ok aR hs mQ hc in
theorem Xm{ρ:Type}{fin:List fZ->Gt->AW->List Tr->Option ρ}{es:Nat}(Q:Exit->Act->World->Prop)(res:ρ)(out:Nat->Prop)(SF:∀k,out k->k≠es/\bit (gK ops k) es=true)
 (Ig:∀aY g A tr,fin aY g A tr=some res->oa ops tr->g=gv (fun _=>True) tr g0->(∀e∈aY,PE E sq β0.d ops g0 tr e)->PN A aY->(∀k o,ops[k]? =some o->(∃x∈tr,x.i=k)\/out k)->
  ∀(aU:Nat) (listed:Array Bool) (β:af) (a:Act) (w:World),listed.size=ops.length->sZ ops.length listed<=aU->PJ w0 E n ops g0 β0 A0 ds (fun k=>listed.getD k false=true) β A aY tr a w->wpAnyIn (kw ro) 0 P .any ⟨ops⟩ Q aU listed a w):
 ∀(L:a0g) (aY:List fZ) (g:Gt) (A:AW) (tr:List Tr) (bL:Nat) (tB:a0r),A8 E sq call ops fin L aY g A tr=some res->wW E ops L bL tB=true->
 (∀k,bit bL k=true↔∃x∈tr,x.i=k)->oa ops tr->g=gv (fun _=>True) tr g0->(∀e∈aY,PE E sq β0.d ops g0 tr e)->PN A aY->(∀k o,ops[k]? =some o->(∃x∈tr,x.i=k)\/k∈L\/out k)->((∃k,out k)->L=[]\/L.getLast?=some es)->
 ∀(aU:Nat) (listed:Array Bool) (β:af) (a:Act) (w:World),listed.size=ops.length->sZ ops.length listed<=aU->PJ w0 E n ops g0 β0 A0 ds (fun k=>listed.getD k false=true) β A aY tr a w->wpAnyIn (kw ro) 0 P .any ⟨ops⟩ Q aU listed a w:=by
 intro L
 induction L with
 |nil=>
  intro aY g A tr bL tB h Cb ac2 hw hg jZ eI fB dS aU;exact Ig aY g A tr h hw hg jZ eI (fun k o hk=>(fB k o hk).imp id (fun h=>h.resolve_left a0C)) aU
 |cons i0 L IH=>
  intro aY g A tr bL tB h Cb ac2 hw hg jZ eI fB dS aU;have h':GZ E sq call ops (A8 E sq call ops fin L) i0 aY g A tr=some res:=h;have m5:Ce E ops (wW E ops L) i0 bL tB=true:=Cb;clear h Cb;unfold Ce at m5;unfold GZ at h';simp only [KL] at h';rw[fK] at m5 h';cases ho:ops[i0]? with
  |none=>grind
  |some o=>
   rw[ho] at m5 h';simp only [xf,Bool.not_eq_true'] at m5 h';obtain⟨⟨⟨lS,bD7⟩,Bz⟩,oL⟩:=m5;have yb:∀x∈tr,x.i≠i0:=fun x hx e=>a0D
   have EO:∀e∈o.after.toList,Region.binds .any e=true->∃y∈tr,y.i=e.on:=fun e he hb=>by
    have:=pn _ _ bD7 e he;rw[hb,eQ] at this
    grind
   have am7:∀q,bit (Nat.lor bL (Nat.pow 2 i0)) q=(bit bL q||decide (i0=q)):=fun q=>by
    rw[uE,uE];show(bL|||2^i0).testBit q=_
    grind
   have KZ:∀v k,bit (Nat.lor bL (Nat.pow 2 i0)) k=true↔∃x∈((⟨i0,o.dst,v⟩:Tr)::tr),x.i=k:=fun v k=>by
    rw[am7,Bool.or_eq_true,ac2 k];constructor
    ·rintro(⟨x,hx,su⟩|h)
     ·grind
     ·exact⟨_,xn,of_decide_eq_true h⟩
    grind
   have IN:∀v,oa ops ((⟨i0,o.dst,v⟩:Tr)::tr):=fun v=>⟨hw,yb,o,ho,rfl,EO⟩
   have FH:∀v,iT g o.dst v=gv (fun _=>True) ((⟨i0,o.dst,v⟩:Tr)::tr) g0:=fun v=>by rw[N3,hg]
   have LH:∀v k o',ops[k]? =some o'->(∃x∈((⟨i0,o.dst,v⟩:Tr)::tr),x.i=k)\/k∈L\/out k:=fun v k o' hk=>by
    rcases fB k o' hk with⟨x,hx,su⟩|hk|hk
    ·grind
    ·cases hk with
     |head=>exact .inl ⟨_,xn,rfl⟩
     |tail _ hk=>exact .inr (.inl hk)
    grind
   have uX:(∃k,out k)->L=[]\/L.getLast?=some es:=fun hk=>by
    grind
   have bH0:∀k,out k->es∈i0::L:=fun k hk=>List.mem_of_getLast? ((dS ⟨k,hk⟩).resolve_left a0C)
   split at h'
   ·cases h'
   rename_i wd zv;replace h':=ax h';rcases h' with⟨LD,h'⟩|⟨LD,h'⟩
   ·
    have gJ:2<=gQ E o.op:=xh LD;rw[LD,eQ] at oL;replace h':=ax h';rcases h' with⟨Rx,h'⟩|⟨_,h'⟩;rotate_left
    ·cases h'
    have bg:=pn _ _ Rx;have CG:∀e∈aY,e.i≠i0:=fun e he CM=>by
     obtain⟨x,hx,su⟩:=PD jZ e he
     grind
    have bE1:∀v,∀e∈jF (fun e=>not (bit (gK ops i0) e.i)) aY,PE E sq β0.d ops g0 ((⟨i0,o.dst,v⟩:Tr)::tr) e:=fun v e he=>by
     rw[vN,List.mem_filter] at he;exact(jZ e he.1).cons _
    have bE0:∀A':AW,A.next<=A'.next->PN A' (jF (fun e=>not (bit (gK ops i0) e.i)) aY):=fun A' hA=>by
     refine⟨fun e he N b hb=> ?_,fun e he e' bT N b b' hb fY=> ?_,fun e he e' bT FI=> ?_⟩
     ·rw[vN,List.mem_filter] at he;exact xK (eI.1 e he.1 N b hb) hA
     ·rw[vN,List.mem_filter] at he bT;exact eI.2.1 e he.1 e' bT.1 N b b' hb fY
     ·rw[vN,List.mem_filter] at he bT;exact eI.2.2 e he.1 e' bT.1 FI
    have eff:∀(aU:Nat) (listed:Array Bool) (β:af) (a:Act) (w:World),listed.size=ops.length->sZ ops.length listed<=aU+1->PJ w0 E n ops g0 β0 A0 ds (fun k=>listed.getD k false=true) β A aY tr a w->
     ¬listed.getD i0 false=true->(∀e∈o.after.toList,Region.binds .any e=true->listed.getD e.on false=true)->wpOpIn (kw ro) 0 P ⟨ops⟩ Q i0 (wpAnyIn (kw ro) 0 P .any ⟨ops⟩ Q aU (listed.setIfInBounds i0 true)) a w:=fun aU listed β a w aS Bv j hn hr=>by
     have bk:=(xe.1 ho).1;have ek:=AJ bk aS a0D;have H9:(listed.setIfInBounds i0 true).size=ops.length:=by simp[aS]
     have ag:∀t∈o.looksAt ⟨ops⟩,gv (fun k=>listed.getD k false=true) tr g0 t=g t:=fun t ht=>by
      have:=ag4 hs j.qx ho hr hn (tr:=(⟨i0,o.dst,undef⟩:Tr)::tr) (tl:=tr) (pre:=[]) (x0:=⟨i0,o.dst,undef⟩) rfl rfl (IN undef) (IN undef) g0 ht;rw[VY (x:=⟨i0,o.dst,undef⟩) hn] at this;rw[hg];exact this
     have bj2:=Gs (a:=a) (by rw[VR ag];exact zv) j.frame;have Mz:∀β' v v' A' w',aj β' v v'->Inv w0 E.G β' A' w'->β.grow β' A.next->A.next<=A'.next->A8 E sq call ops fin L (jF (fun e=>not (bit (gK ops i0) e.i)) aY) (iT g o.dst v) A' (⟨i0,o.dst,v⟩::tr)=some res->
      wpAnyIn (kw ro) 0 P .any ⟨ops⟩ Q aU (listed.setIfInBounds i0 true) (a.put o.dst v') w':=fun β' v v' A' w' hv bZ mu fy vp=>by
      have j':=aY1 mQ j ho yb CG hr hv bZ mu fy;rw[<-Lg a0D] at j';exact IH _ _ _ _ _ _ vp oL (KZ v) (IN v) (FH v) (bE1 v) (bE0 A' a0D) (LH v) uX aU _ β' _ w' H9 a0B j'
     unfold wpOpIn;have uV:(⟨ops⟩:Array Oper)[i0]? =some o:=by simpa using ho
     simp only [uV];rw[bj2];cases wd with
     |false=>
      rw[if_neg a0C];rw[ku] at h';exact⟨fun _ _=>trivial,Mz β undef undef _ w aj.undef j.inv (af.cb _ _) (xk _) h'⟩
     |true=>
      rw[if_pos rfl];rw[eQ] at h';have oc:iY E sq A (gv (fun k=>listed.getD k false=true) tr g0) o.op=iY E sq A g o.op:=aF1 (Jt ag);cases qU:iY E sq A g o.op with
      |fail=>grind
      |nd q=>grind
      |val v A'=>
       rw[qU] at h';simp only [Gj,yD] at h';exact Qc ok aR j.inv j.frame (oc.trans qU) (fun β' v' w' hv bZ mu fy=>Mz β' v v' A' w' hv bZ mu fy h')
      |call f args=>
       rw[qU] at h';simp only at h';split at h'
       ·rename_i v A' ny;refine XU ok j.inv j.frame hc (oc.trans qU) ny (fun p hp β' v' w' hv bZ mu fy=> ?_)
        grind
       ·cases h'
    have YG:∀(listed:Array Bool) (β:af) (a:Act) (w:World),listed.size=ops.length->PJ w0 E n ops g0 β0 A0 ds (fun k=>listed.getD k false=true) β A aY tr a w->Region.ready .any ⟨ops⟩ listed≠[]:=fun listed β a w aS j gA=>by
     have sv: ¬listed.getD i0 false=true:=fun h=>by grind [j.only]
     have all:∀x∈tr,listed.getD x.i false=true:=fun x hx=>Classical.byContradiction fun hn=>by
      obtain⟨y,hy,Uz,o',jo,hr⟩:=Oe (D:=fun k=>listed.getD k false=true) hw ⟨x,hx,hn⟩;have:=JP jo aS Uz hr
      grind
     have:=JP ho aS sv (fun e he hb=>by obtain⟨y,hy,IL⟩:=EO e he hb;exact IL▸all y hy)
     grind
    induction aU with
    |zero=>
     intro listed β a w aS Bv j;exfalso;have bq:=YG listed β a w aS j;cases hq:Region.ready .any ⟨ops⟩ listed with
     |nil=>exact bq hq
     |cons i r=>
      obtain⟨o',jo,hn,_⟩:=Df (ops:=ops) (i:=i) aS a0D;have:=AJ (xe.1 jo).1 aS a0D;omega
    |succ aU ih=>
     intro listed β a w aS Bv j;refine⟨fun gA=>absurd gA (YG listed β a w aS j),fun i hi=> ?_⟩;obtain⟨o',jo,hn,hr⟩:=Df aS hi;have bk:=(xe.1 jo).1;rcases fB i o' jo with⟨x,hx,su⟩|qV|qV
     ·obtain⟨e,he,CM⟩:=j.un x hx a0D;have SP:e.i=i:=CM.trans su;subst SP;have UG:e.o=o':=by have:=(jZ e he).op;rw[jo] at this;cases this;rfl
      subst UG;refine WY ok aR hs mQ hw j jZ eI.2.1 eI.2.2 he (bg e he) hn hr (fun β' a' w' j'=> ?_);rw[<-Lg a0D] at j';refine ih _ β' a' w' (by simp[aS]) ?_ j';have:=AJ bk aS a0D;omega
     ·cases qV with
      |head=>
       rw[ho] at jo;cases jo;exact eff aU listed β a w aS Bv j hn hr
      |tail _ qV=>
       exfalso;obtain⟨e,bc,ij,he3⟩:=Pk L _ i0 oL a0D i qV;have U2:=(Di j.qx jo hr he3).resolve_right ij;obtain⟨x,hx,Ni⟩:=j.only e U2;rcases bc with rfl|bc
       ·grind
       ·have h1:=ON L _ _ oL e bc;rw[(KZ undef e).2 ⟨x,xo _ hx,Ni⟩] at h1;cases h1
     ·exfalso;obtain⟨bq,hbt⟩:=SF i qV;have U2:=(Di j.qx jo hr hbt).resolve_right bq.symm;obtain⟨x,hx,Ni⟩:=j.only es U2;cases bH0 i qV with
      |head=>grind
      |tail _ bc=>
       have h1:=ON L _ _ oL es bc;rw[(KZ undef es).2 ⟨x,xo _ hx,Ni⟩] at h1;cases h1
   ·
    have fk:gQ E o.op<=1:=by
     have: ¬2<=gQ E o.op:=fun e=>by grind [Nat.ble_eq_true_of_le]
     omega
    rw[LD,ku] at oL;intro listed β a w aS Bv j;have GK:∀(v:xM) (A':AW) (zX:Bool) (nb:Option (Nat×aE)) (sy:Option Node),A8 E sq call ops fin L (⟨i0,o,g,v,zX,nb,sy⟩::aY) (iT g o.dst v) A' (⟨i0,o.dst,v⟩::tr)=some res->(A'=A\/(∃blk,r7 blk/\A'=A.add blk)\/∃r,(∀nd∈r,nd∈A.tape)/\A'=A.pop r)->
     (∀N b,nb=some (N,b)->N=A.next/\A.next<A'.next)->p6 ops g o=some zX->(zX=false->v=undef)->(zX=true->nb=none->sy=none->gQ E o.op=0/\∃A1,aV E sq A1 g o.op= .val v A1)->
     (zX=true->sy=none->∀N blk,nb=some (N,blk)->gQ E o.op=1/\∃A1 A2,A1.next=N/\A1.get N=none/\aV E sq A1 g o.op= .val v A2/\A2.get N=some blk)->(∀nd,sy=some nd->zX=true/\bP β0.d nd/\nb=none)->wpAnyIn (kw ro) 0 P .any ⟨ops⟩ Q aU listed a w:=fun v A' zX nb sy vp hA vu Fx bC9 hqt I3 x9=>by
     have fy:A.next<=A'.next:=by
      rcases hA with rfl|⟨blk,_,rfl⟩|⟨r,_,rfl⟩
      ·grind
      ·exact Nat.le_succ _
      ·exact xk _
     have j':=bc6 (e:=⟨i0,o,g,v,zX,nb,sy⟩) (v:=v) j fk ho yb rfl hA vu;refine IH _ _ _ _ _ _ vp oL (KZ v) (IN v) (FH v) (fun e he=> ?_) ⟨fun e he N b hb=> ?_,fun e he e' bT N b b' hb fY=> ?_,fun e he e' bT FI=> ?_⟩ (LH v) uX aU listed β a w aS Bv j'
     ·cases he with
      |head=>exact⟨⟨[],⟨i0,o.dst,v⟩,tr,rfl,rfl,rfl,IN v,hg⟩,ho,fk,Fx,bC9,hqt,I3,x9⟩
      |tail _ he=>exact(jZ e he).cons _
     ·cases he with
      |head=>grind
      |tail _ he=>exact xK (eI.1 e he N b hb) fy
     ·cases he with
      |head=>cases bT with
       |head=>rfl
       |tail _ bT=>
        have h1:=(vu N b hb).1;have h2:=eI.1 e' bT N b' fY;omega
      |tail _ he=>cases bT with
       |head=>
        have h1:=(vu N b' fY).1;have h2:=eI.1 e he N b hb;omega
       |tail _ bT=>exact eI.2.1 e he e' bT N b b' hb fY
     ·have Fz:=PD jZ;cases he with
      |head=>cases bT with
       |head=>rfl
       |tail _ bT=>obtain⟨x,hx,su⟩:=Fz e' bT;exact absurd (su.trans FI.symm) (yb x hx)
      |tail _ he=>cases bT with
       |head=>obtain⟨x,hx,su⟩:=Fz e he;grind
       |tail _ bT=>exact eI.2.2 e he e' bT FI
    cases wd with
    |false=>
     rw[ku] at h';exact GK undef A false none none h' (.inl rfl) (fun N b hb=>by cases hb) zv (fun _=>rfl) (fun e=>by cases e) (fun e=>by cases e) (fun nd e=>by cases e)
    |true=>
     rw[eQ] at h';cases qU:aV E sq A g o.op with
     |fail=>
      rw[qU] at h';simp only at h';split at h'
      ·cases h'
      ·rename_i nd r ht;split at h'
       ·rename_i v hv;have qV:∀x∈r,x∈A.tape:=fun x hx=>a0D
        refine GK v (A.pop r) true none (some nd) h' (.inr (.inr ⟨r,qV,rfl⟩)) (fun N b hb=>by cases hb) zv (fun e=>by cases e) (fun _ _ e=>by cases e) (fun _ _ N b hb=>by cases hb) (fun nd' e=> ?_);cases e;exact⟨rfl,by rw[<-j.grow.d];exact ok.q _ _ (j.inv.dJ nd (by rw[ht];exact xn)),rfl⟩
       ·cases h'
     |nd q=>rw[qU] at h';cases h'
     |call f args=>rw[qU] at h';cases h'
     |val v A'=>
      rw[qU] at h';simp only [Gj,yD] at h';replace h':=ax h';rcases h' with⟨gU,h'⟩|⟨gU,h'⟩
      ·have iV:=xb gU;split at h'
       ·rename_i b hb;obtain⟨blk,iZ,jj⟩:=aG4 iV qU;have j4:A.next<A'.next:=by rw[jj];exact Nat.lt_succ_self _
        refine GK v A' true (some (A.next,b)) none h' (.inr (.inl ⟨blk,iZ,jj⟩)) (fun N b' fY=>by cases fY;exact⟨rfl,j4⟩) zv (fun e=>by cases e) (fun _ e=>by cases e) (fun _ _ N b' fY=> ?_) (fun nd e=>by cases e);cases fY;exact⟨iV,A,A',rfl,j.inv.cW _ (xk _),qU,hb⟩
       ·cases h'
      ·have al9:gQ E o.op=0:=by
        have: ¬gQ E o.op=1:=fun e=>by rw[e] at gU;cases gU
        omega
       have Rz:=N9 al9 qU;subst Rz;exact GK v A' true none none h' (.inl rfl) (fun N b hb=>by cases hb) zv (fun e=>by cases e) (fun _ _ _=>⟨al9,A',qU⟩) (fun _ _ N b hb=>by cases hb) (fun nd e=>by cases e)
end
def H6(v:xM):Bool:=match v with| .agg ⟨l⟩=>fq l7 l|v=>l7 v
def Bl(E:au)(sq:a0c)(ops:a0o)(A:AW)(g:Gt)(o:Oper):Option (xM×AW×List Nat):=
 match p6 ops g o with
 |none=>none
 |some false=>some (undef,A,[])
 |some true=>match aV E sq A g o.op with
  | .val v A'=>bs (Nat.beq (gQ E o.op) 0) (some (v,A',[])) (match o.op with
   | .store _ a _=>(match ev E g a with| .pointer (some ⟨B,_,_⟩)=>some (v,A',[B])|_=>none)
   |_=>none)
  | .fail=>(match o.op with
   | .indexAddr _ _ _=>(match iY E sq A g o.op with| .val v A'=>some (v,A',[])|_=>none)
   | .store _ a x=>(match ev E g a with
    | .iface B _=>bs (H6 (ev E g x)) (match iY E sq A g o.op with| .val v A'=>some (v,A',[B])|_=>none) none
    |_=>none)
   |_=>none)
  |_=>none
def v9(ops:a0o)(bL:Nat):a0g:=
 jF (fun i=>match dP ops i with|some o=>not (bit bL i)&&GW bL o|none=>false) (sa (fun i=>i) (bA ops) [])
def RX(E:au)(sq:a0c)(ops:a0o)(EL:Gt->AW->a0g->Bool)(aU:Nat):Nat->Gt->AW->a0g->Bool:=
 Nat.rec (motive:=fun _=>Nat->Gt->AW->a0g->Bool) (fun _ _ _ _=>false)
  (fun _ ih bL g A tb=>match v9 ops bL with
   |[]=>EL g A tb
   |r::rs=>fq (fun i=>match dP ops i with
    |none=>false
    |some o=>match Bl E sq ops A g o with
     |none=>false
     |some (v,A',t)=>ih (Nat.lor bL (Nat.pow 2 i)) (iT g o.dst v) A' (iU t tb)) (r::rs)) aU
def Sg(E:au)(sq:a0c)(ops:a0o)(aU:Nat):Nat->Gt->AW->List Tr->List Nat->Option (Gt×AW×List Tr×List Nat):=
 Nat.rec (motive:=fun _=>Nat->Gt->AW->List Tr->List Nat->Option (Gt×AW×List Tr×List Nat)) (fun _ _ _ _ _=>none)
  (fun _ ih bL g A tr tb=>match v9 ops bL with
   |[]=>some (g,A,tr,tb)
   |i::_=>match dP ops i with
    |none=>none
    |some o=>match Bl E sq ops A g o with
     |none=>none
     |some (v,A',t)=>ih (Nat.lor bL (Nat.pow 2 i)) (iT g o.dst v) A' (⟨i,o.dst,v⟩::tr) (iU t tb)) aU
def Sr(a b:Option aE):Bool:=match a,b with|some x,some y=>L4 x y|none,none=>true|_,_=>false
def ab4(ops:a0o)(mask0:Nat)(gc:Gt)(Ac:AW)(rf:a0g)(g:Gt)(A:AW)(tb:a0g):Bool:=
 fq (fun B=>Sr (A.get B) (Ac.get B)) (iU tb rf)&&s6 (fun i o=>bs (bit mask0 i) true (match o.dst with|none=>true|some d=>vg (g d) (gc d))) ops 0
def rW(tr:List Tr):Nat:=List.rec (motive:=fun _=>Nat) 0 (fun x _ m=>Nat.lor m (Nat.pow 2 x.i)) tr
def Km(E:au)(sq:a0c)(ops:a0o)(aY:List fZ)(g:Gt)(A:AW)(tr:List Tr):Option (List Tr×AW):=
 match aY with
 |[]=>match Sg E sq ops (Nat.add (bA ops) 1) (rW tr) g A tr [] with
  |some (gc,Ac,tQ,rf)=>bs (RX E sq ops (ab4 ops (rW tr) gc Ac rf) (Nat.add (bA ops) 1) (rW tr) g A []) (some (tQ,Ac)) none
  |none=>none
 |_=>none
theorem ax7{a x:xM}(h:yV E A t a x=some A'):∃B o blk,a= .pointer (some ⟨B,o,none⟩)/\A'=A.put B (some blk):=by
 unfold yV at h;split at h
 ·split at h
  ·replace h:=ax h
   grind
  ·cases h
 ·cases h
theorem bg5(A:AW)(B:Nat)(b:Option aE)(C:Nat)(hC:C≠B):(A.put B b).get C=A.get C:=by
 grind [absurd,A.gk]
theorem YL{ih:xM->AW->a0q}(hi:∀v A,l7 v=true->ih v A=some (v,A)):∀(l:a0e) (A:AW),fq l7 l=true->nJ ih l A=some (l,A)
 |[],_,_=>rfl
 |v::l,A,h=>by
  have h':bs (l7 v) (fq l7 l) false=true:=h;have h1:l7 v=true/\fq l7 l=true:=by
   rcases ax h' with h|⟨_,h⟩
   ·exact h
   ·cases h
  show(match ih v A with|some (u,A1)=>(match nJ ih l A1 with|some (us,A2)=>some (u::us,A2)|none=>none)|none=>none)=_;rw[hi v A h1.1];simp only;rw[YL hi l A h1.2]
theorem ba7{G:Nat}{x:xM}(h:H6 x=true):kW G 4 x A=some (x,A):=by
 have h1:∀n v A,l7 v=true->kW G n v A=some (v,A):=fun n v A hv=>by
  cases n with
  |zero=>show bs (l7 v) (some (v,A)) none=_;rw[hv,eQ]
  |succ n=>show bs (l7 v) (some (v,A)) _=_;rw[hv,eQ]
 unfold H6 at h;split at h
 ·rename_i l;show EY G (kW G 3) (.agg ⟨l⟩) A=_
  grind [EY,YL]
 grind
theorem VG{B:Nat}{p x:xM}(hx:H6 x=true)(h:A7 E A t (.iface B p) x=some A'):A'.next=A.next/\(∀C,C≠B->A'.get C=A.get C)/\∀nd∈A'.tape,nd∈A.tape:=by
 have hf:kW E.G.n 4 x A=some (x,A):=ba7 hx;unfold A7 at h;split at h
 ·rename_i B2 iv es off r hc hr;cases hc;rw[hf] at h;simp only at h;split at h
  ·replace h:=ax h;rcases h with⟨_,h⟩|⟨_,h⟩
   ·split at h
    ·rename_i y A2 hp;cases h;obtain⟨nd,rt,c,ht,_,_,_,_,rfl⟩:=nW hp;exact⟨rfl,fun C hC=>bg5 (A.pop rt) B _ C hC,fun x hx=>by rw[ht];exact xo _ hx⟩
    ·cases h
   ·cases h
  ·cases h
 ·cases h
theorem Wa{sq:a0c}{op:Op}{v:xM}(h:uO E sq A g op= .val v A'):A'.next=A.next/\(∀C,A'.get C=A.get C)/\∀nd∈A'.tape,nd∈A.tape:=by
 obtain⟨nd,l,v2,ht,_,hr⟩:=JM h a0C;cases hr;exact⟨rfl,fun _=>rfl,fun x hx=>by rw[ht];exact xo _ hx⟩
theorem aw3{sq:a0c}{x i:Operand}{v:xM}(hA:aV E sq A g (.indexAddr t x i)= .fail)(h:iY E sq A g (.indexAddr t x i)= .val v A'):A'.next=A.next/\(∀C,A'.get C=A.get C)/\∀nd∈A'.tape,nd∈A.tape:=by
 rcases Gh E sq A g (.indexAddr t x i) with⟨_,h2⟩|h1|h1|⟨nd,r,ht,h1⟩
 ·grind
 ·exact Wa (h1.symm.trans h)
 ·have:qg E sq A g (.indexAddr t x i)= .val v A':=h1.symm.trans h;cases this
 ·have:qg E sq (A.pop r) g (.indexAddr t x i)= .val v A':=h1.symm.trans h;cases this
theorem aw2{sq:a0c}{x y:Operand}{v:xM}{B:Nat}{p:xM}(hA:aV E sq A g (.store t x y)= .fail)(hx:ev E g x= .iface B p)(hy:H6 (ev E g y)=true)(h:iY E sq A g (.store t x y)= .val v A'):A'.next=A.next/\(∀C,C≠B->A'.get C=A.get C)/\∀nd∈A'.tape,nd∈A.tape:=by
 rcases Gh E sq A g (.store t x y) with⟨_,h2⟩|h1|h1|⟨nd,r,ht,h1⟩
 ·grind
 ·obtain⟨a,b,c⟩:=Wa (h1.symm.trans h)
  grind
 ·have h3:ql (A7 E A t (ev E g x) (ev E g y))= .val v A':=h1.symm.trans h
  grind [AS,VG]
 ·have h3:ql (A7 E (A.pop r) t (ev E g x) (ev E g y))= .val v A':=h1.symm.trans h;obtain⟨h4,_⟩:=AS h3;rw[hx] at h4;obtain⟨a,b,c⟩:=VG hy h4;exact⟨a,b,fun x hx=>by rw[ht];exact xo _ (c x hx)⟩
theorem V9{sq:a0c}{o:Oper}{v:xM}{t:a0g}(h:Bl E sq ops A g o=some (v,A',t)):
 (∃wd,p6 ops g o=some wd/\(wd=false->v=undef/\A'=A)/\(wd=true->aV E sq A g o.op= .val v A'\/iY E sq A g o.op= .val v A'))/\A'.next=A.next/\(∀C,C∉t->A'.get C=A.get C)/\∀nd∈A'.tape,nd∈A.tape:=by
 unfold Bl at h;split at h
 ·cases h
 ·grind
 ·rename_i hw;split at h
  ·rename_i v1 A1 ek;replace h:=ax h;rcases h with⟨hk,h⟩|⟨_,h⟩
   ·cases h;have:=N9 (xb hk) ek
    grind
   ·split at h
    ·rename_i ty ad x ho;split at h
     ·rename_i B of md vw;cases h;have uV:=ek;rw[ho] at uV;simp only [aV] at uV;obtain⟨bg,_⟩:=AS uV;obtain⟨B2,o2,blk,ha,rfl⟩:=ax7 bg;rw[vw] at ha;cases ha;refine⟨⟨true,hw,(fun e=>by cases e),fun _=> .inl ek⟩,rfl,fun C hC=> ?_,fun _ h=>h⟩
      grind [absurd,A.gk]
     ·cases h
    ·cases h
  ·rename_i ek;split at h
   ·grind [aw3]
   ·rename_i ts xs ys ho;split at h
    ·rename_i B p vw;replace h:=ax h
     grind [aw2]
    ·cases h
   ·cases h
  ·cases h
theorem Inv.ext{G:GP}(h:Inv w0 G β A w)(hg:∀C,A'.get C=A.get C)(hn:A'.next=A.next)(ht:∀nd∈A'.tape,G.Q β.d nd):Inv w0 G β A' w:=
 ⟨h.below,fun B l e=>by rw[hn];exact h.fI B l e,fun B hB=>by grind [h.cW],h.loc,fun B B' l l' e e' eE ha lz=>h.inj B B' l l' e e' eE a0D a0D,
  fun B blk l hb e=>h.cont B blk l a0D e,h.jk,h.cP,fun B l kb hG e ha hs=>h.sep B l kb hG e a0D hs,ht,fun B k hk=>h.own B k a0D,fun B v e=>(by rw[hn];exact h.iB B v e),h.lay,h.xg,h.jP,h.zo,fun b hh hy=>⟨(h.dR b hh hy).1,(h.dR b hh hy).2.1,(h.dR b hh hy).2.2.1,fun C lc e ha=>(h.dR b hh hy).2.2.2 C lc e a0D⟩⟩
theorem aX9(h:Sr a b=true):a=b:=by
 unfold Sr at h
 grind [J2]
theorem La(bL i q:Nat):bit (Nat.lor bL (Nat.pow 2 i)) q=(bit bL q||decide (i=q)):=by
 rw[uE,uE];show(bL|||2^i).testBit q=_
 grind
theorem WG:∀(tr:List Tr) (k:Nat),bit (rW tr) k=true↔∃x∈tr,x.i=k
 |[],k=>by
  rw[show rW []=0 from rfl,uE,Nat.zero_testBit]
  grind
 |x::tr,k=>by
  rw[show rW (x::tr)=Nat.lor (rW tr) (Nat.pow 2 x.i) from rfl,La,Bool.or_eq_true,WG tr k]
  grind
theorem Oa{bL i:Nat}:i∈v9 ops bL↔∃o,ops[i]? =some o/\bit bL i=false/\∀e∈o.after.toList,Region.binds .any e=true->bit bL e.on=true:=by
 unfold v9;rw[vN,List.mem_filter,yQ,du];simp only [List.map_id',xj,List.mem_range,fK];have gA:∀o:Oper,GW bL o=true↔∀e∈o.after.toList,Region.binds .any e=true->bit bL e.on=true:=fun o=>by
  unfold GW;generalize o.after.toList=l
  induction l with
  |nil=>simp[fq]
  |cons e l ih=>
   have hl:fq (fun e=>bs (Region.binds .any e) (bit bL e.on) true) (e::l)=bs (bs (Region.binds .any e) (bit bL e.on) true) (fq (fun e=>bs (Region.binds .any e) (bit bL e.on) true) l) false:=rfl;rw[hl];simp only [xG,forall_eq_or_imp];rw[<-ih];cases Region.binds .any e<;>cases bit bL e.on<;>simp only [eQ,ku]<;>simp
 grind
section
variable(ok:E.Ok P){sq:a0c}(aR:E.Seq P sq)(mQ:∀o∈ops,∀d,o.dst=some d->d<n)
def zE(ops:a0o)(mask0:Nat)(g1:Gt)(A1:AW)(g:Gt)(A:AW)(tb:a0g):Prop:=
 (∀C,C∉tb->A.get C=A1.get C)/\A.next=A1.next/\(∀t,(∀(i:Nat) (o:Oper),ops[i]? =some o->bit mask0 i=false->o.dst≠some t)->g t=g1 t)/\∀nd∈A.tape,nd∈A1.tape
theorem zE.step{mask0:Nat}{g1:Gt}{A1:AW}{tb t:a0g}{i:Nat}{o:Oper}{v:xM}(h:zE ops mask0 g1 A1 g A tb)(ho:ops[i]? =some o)(hi:bit mask0 i=false)(h1:Bl E sq ops A g o=some (v,A',t)):zE ops mask0 g1 A1 (iT g o.dst v) A' (iU t tb):=by
 obtain⟨_,hn,hg,Ut⟩:=V9 h1;refine⟨fun C hC=> ?_,hn.trans h.2.1,fun s hs=> ?_,fun nd dj=>h.2.2.2 nd (Ut nd dj)⟩
 ·rw[mF,xF] at hC;rw[hg C (fun e=>hC (.inl e))];exact h.1 C (fun e=>hC (.inr e))
 ·rw[Dk,if_neg (hs i o ho hi)];exact h.2.2.1 s hs
include ok aR mQ in
theorem YQ{EL:Gt->AW->a0g->Bool}{mask0:Nat}{g1:Gt}{A1:AW}(Q:Exit->Act->World->Prop)
 (ac3:∀g A tb β a w,EL g A tb=true->zE ops mask0 g1 A1 g A tb->bU β n g a.tmps->Inv w0 E.G β A w->β0.grow β A0.next->A0.next<=A.next->a.defers=ds->Q .normal a w):
 ∀(HB bL:Nat) (g:Gt) (A:AW) (tb:a0g) (listed:Array Bool) (β:af) (a:Act) (w:World) (aU:Nat),RX E sq ops EL HB bL g A tb=true->(∀k,bit bL k=true↔listed.getD k false=true)->(∀k,bit mask0 k=true->bit bL k=true)->
  listed.size=ops.length->sZ ops.length listed<=aU->zE ops mask0 g1 A1 g A tb->bU β n g a.tmps->Inv w0 E.G β A w->β0.grow β A0.next->A0.next<=A.next->a.defers=ds->wpAnyIn (kw ro) 0 P .any ⟨ops⟩ Q aU listed a w
 |0,bL,g,A,tb,listed,β,a,w,aU,h,hm,kp,aS,ek,hk,hf,inv,mu,j4,hd=>by cases h
 |HB+1,bL,g,A,tb,listed,β,a,w,aU,h,hm,kp,aS,ek,hk,hf,inv,mu,j4,hd=>by
  have h':(match v9 ops bL with
   |[]=>EL g A tb
   |r::rs=>fq (fun i=>match dP ops i with
    |none=>false
    |some o=>match Bl E sq ops A g o with
     |none=>false
     |some (v,A',t)=>RX E sq ops EL HB (Nat.lor bL (Nat.pow 2 i)) (iT g o.dst v) A' (iU t tb)) (r::rs))=true:=h
  clear h;have CI:∀i,i∈Region.ready .any ⟨ops⟩ listed->i∈v9 ops bL:=fun i hi=>by
   grind [Df,Oa,bit,absurd]
  split at h'
  ·rename_i cw4;have gA:Region.ready .any ⟨ops⟩ listed=[]:=List.eq_nil_iff_forall_not_mem.2 fun i hi=>a0D
   have hq:=ac3 g A tb β a w h' hk hf inv mu j4 hd;cases aU with
   |zero=>exact⟨gA,hq⟩
   |succ aU=>exact⟨fun _=>hq,fun i hi=>a0D⟩
  ·rename_i r rs BB;obtain⟨o0,FA,CR,fG⟩:=Oa.1 (show r∈v9 ops bL by grind);have sv: ¬listed.getD r false=true:=fun e=>a0D
   have bF6:=(xe.1 FA).1;have hos:=AJ bF6 aS a0D;cases aU with
   |zero=>omega
   |succ aU=>
    refine⟨fun gA=> ?_,fun i hi=> ?_⟩
    ·have:=JP FA aS sv (fun e he hb=>(hm e.on).1 (fG e he hb))
     grind
    ·obtain⟨o,ho,hn,hr⟩:=Df aS hi;have bk:=(xe.1 ho).1;have fB:=pn _ _ h' i a0D;simp only [fK,ho] at fB;split at fB
     ·cases fB
     ·rename_i v A' t h1;have hbi:bit bL i=false:=by cases hb:bit bL i with|false=>rfl|true=>grind
      have SV:bit mask0 i=false:=by cases hb:bit mask0 i with|false=>rfl|true=>grind
      have fM:=hk.step ho SV h1;obtain⟨⟨wd,hw,hwf,Fx⟩,fy,_⟩:=V9 h1;have cw0:=AJ bk aS a0D;have Mz:∀β' v' w',aj β' v v'->Inv w0 E.G β' A' w'->β.grow β' A.next->wpAnyIn (kw ro) 0 P .any ⟨ops⟩ Q aU (listed.setIfInBounds i true) (a.put o.dst v') w':=fun β' v' w' hv bZ am1=>by
       have aK:=inv.gC am1;refine YQ Q ac3 HB _ _ _ _ _ β' _ w' aU fB (fun k=> ?_) (fun k lS=> ?_) (by simp[aS]) a0B fM ((hf.mono aK).iT (fun d hd=>mQ o (xu ho) d hd) hv) bZ (af.iP mu am1 j4) a0D ?_
       ·have:=congrFun (Lg (listed:=listed) (i:=i) a0D) k;rw[La,Bool.or_eq_true,hm k,decide_eq_true_iff]
        grind
       ·grind [La]
       ·cases o.dst<;>exact hd
      unfold wpOpIn;have uV:(⟨ops⟩:Array Oper)[i]? =some o:=by simpa using ho
      simp only [uV];rw[Gs hw hf];cases wd with
      |false=>
       rw[if_neg a0C];obtain⟨rfl,rfl⟩:=hwf rfl;exact⟨fun _ _=>trivial,Mz β undef w aj.undef inv (af.cb _ _)⟩
      |true=>
       rw[if_pos rfl];rcases Fx rfl with bE3|bE3
       ·grind [aT6]
       grind [Qc]
theorem Wu{mask0:Nat}{g0 g1:Gt}{A1:AW}:∀(aU bL:Nat) (g:Gt) (A:AW) (tr:List Tr) (tb:a0g) (gc:Gt) (Ac:AW) (tQ:List Tr) (rf:a0g),Sg E sq ops aU bL g A tr tb=some (gc,Ac,tQ,rf)->(∀k,bit mask0 k=true->bit bL k=true)->
 g=gv (fun _=>True) tr g0->zE ops mask0 g1 A1 g A tb->gc=gv (fun _=>True) tQ g0/\zE ops mask0 g1 A1 gc Ac rf
 |0,bL,g,A,tr,tb,gc,Ac,tQ,rf,h,kp,hg,hk=>by cases h
 |aU+1,bL,g,A,tr,tb,gc,Ac,tQ,rf,h,kp,hg,hk=>by
  have h':(match v9 ops bL with
   |[]=>some (g,A,tr,tb)
   |i::_=>match dP ops i with
    |none=>none
    |some o=>match Bl E sq ops A g o with
     |none=>none
     |some (v,A',t)=>Sg E sq ops aU (Nat.lor bL (Nat.pow 2 i)) (iT g o.dst v) A' (⟨i,o.dst,v⟩::tr) (iU t tb))=some (gc,Ac,tQ,rf):=h
  clear h;split at h'
  ·grind
  ·rename_i i rs BB;obtain⟨o0,FA,CR,fG⟩:=Oa.1 (show i∈v9 ops bL by grind);simp only [fK,FA] at h';split at h'
   ·cases h'
   ·rename_i v A' t h1;have SV:bit mask0 i=false:=by cases hb:bit mask0 i with|false=>rfl|true=>rw[kp i hb] at CR;cases CR
    refine Wu aU _ _ _ _ _ gc Ac tQ rf h' (fun k lS=>by rw[La,kp k lS];rfl) ?_ (hk.step FA SV h1);rw[N3,hg]
include ok aR mQ in
theorem aB9{res:List Tr×AW}(h:Km E sq ops aY g A tr=some res)(hg:g=gv (fun _=>True) tr g0)
 (Q:Exit->Act->World->Prop) (hQ:∀β a w,bU β n (gv (fun _=>True) res.1 g0) a.tmps->Inv w0 E.G β res.2 w->β0.grow β A0.next->A0.next<=res.2.next->a.defers=ds->Q .normal a w) (aU:Nat)
 (listed:Array Bool) (β:af) (a:Act) (w:World) (aS:listed.size=ops.length) (ek:sZ ops.length listed<=aU) (j:PJ w0 E n ops g0 β0 A0 ds (fun k=>listed.getD k false=true) β A aY tr a w):wpAnyIn (kw ro) 0 P .any ⟨ops⟩ Q aU listed a w:=by
 unfold Km at h;split at h;rotate_left
 ·cases h
 split at h;rotate_left
 ·cases h
 rename_i gc Ac tQ rf bD2;replace h:=ax h;rcases h with⟨hen,h⟩|⟨_,h⟩;rotate_left
 ·cases h
 cases h;have all:∀x∈tr,listed.getD x.i false=true:=fun x hx=>Classical.byContradiction fun hn=>by
  grind [j.un]
 have I3:bU β n g a.tmps:=by
  have:=j.frame;rw[K3 (D':=fun _=>True) (fun x hx=>⟨fun _=>trivial,fun _=>all x hx⟩),<-hg] at this;exact this
 have lS:zE ops (rW tr) g A g A []:=⟨fun _ _=>rfl,rfl,fun _ _=>rfl,fun _ h=>h⟩;obtain⟨hgc,FE⟩:=Wu (mask0:=rW tr) (g0:=g0) (g1:=g) (A1:=A) _ _ _ _ _ _ gc Ac tQ rf bD2 (fun _ h=>h) hg lS;refine YQ ok aR mQ (mask0:=rW tr) (g1:=g) (A1:=A) Q (fun g2 A2 tb2 cG a2 w2 hl gJ bE H7 Mw cw1 dY=> ?_) _ _ g A [] listed β a w aU hen (fun k=> ?_) (fun _ h=>h) aS ek lS I3 j.inv j.grow j.cW j.defers
 ·unfold ab4 at hl;rw[xf] at hl;have lJ:∀C,Ac.get C=A2.get C:=fun C=>by
   by_cases hC:C∈iU tb2 rf
   ·grind [aX9,pn]
   ·rw[mF,xF] at hC;exact(FE.1 C (fun e=>hC (.inr e))).trans (gJ.1 C (fun e=>hC (.inl e))).symm
  have j4:Ac.next=A2.next:=FE.2.1.trans gJ.2.1.symm;refine hQ cG a2 w2 (bE.ext fun t=> ?_) (H7.ext lJ j4 (fun nd dj=>by rw[Mw.d,<-j.grow.d];exact j.inv.dJ nd (FE.2.2.2 nd dj))) Mw a0D dY;show gv (fun _=>True) tQ g0 t=g2 t;rw[<-hgc];by_cases ht:∃(i:Nat) (o:Oper),ops[i]? =some o/\bit (rW tr) i=false/\o.dst=some t
  ·obtain⟨i,o,ho,hb,hd⟩:=ht;have:=Dr _ ops 0 hl.2 i o ho;rw[Nat.zero_add,hb,ku,hd] at this
   grind [DQ]
  ·have jA:∀(i:Nat) (o:Oper),ops[i]? =some o->bit (rW tr) i=false->o.dst≠some t:=fun i o ho hb hd=>ht ⟨i,o,ho,hb,hd⟩
   rw[FE.2.2.1 t jA,gJ.2.2.1 t jA]
 ·rw[WG];constructor
  ·grind
  ·exact j.only k
end
def bK3(E:au)(ops:a0o)(L:a0g):List Nat->Option (List Nat×Nat)->Option (List Nat×Nat):=
 List.rec (motive:=fun _=>List Nat->Option (List Nat×Nat)->Option (List Nat×Nat)) (fun _ TP=>TP)
  (fun i r ih bJ TP=>ih (iU bJ [i]) (bs (match dP ops i with|some o=>Nat.ble 2 (gQ E o.op)&&fq (fun k=>bit (gK ops k) i) r&&wW E ops (iU bJ [i]) 0 none|none=>false) (some (iU bJ [i],i)) TP)) L
def ab3(L:a0g):a0r:=List.rec (motive:=fun _=>a0r) none (fun a r ih=>match r with|[]=>some a|_::_=>ih) L
theorem Xv:∀L:a0g,ab3 L=L.getLast?
 |[]=>rfl
 |[a]=>rfl
 |a::b::L=>by
  have:=Xv (b::L);rw[List.getLast?_cons_cons,<-this];rfl
def aa1(E:au)(n:Nat)(ops:a0o)(L:a0g)(es:Nat):Bool:=
 wW E ops L 0 none&&s6 (fun i _=>Ft i L||(not (Nat.beq i es)&&bit (gK ops i) es)) ops 0&&s6 (fun i oi=>s6 (fun j oj=>Ec ops i oi j oj) ops 0) ops 0&&fq (fun o=>match o.dst with|some d=>Nat.blt d n|none=>true) ops&&
  (match ab3 L with|some e=>Nat.beq e es|none=>false)
def HW(n:Nat)(fr:Fr)(x:Option (List Tr×AW)):bp Fr:=
 match x with
 |some (tr,A')=>match Qf n fr tr with|some cR=>some [(cR,A')]|none=>none
 |none=>none
def HG(E:au)(sq:a0c)(call:eL->a0e->AW->bp xM)(n:Nat)(ops:a0o)(fr:Fr)(A:AW):bp Fr:=
 bs (aa2 E n ops (Kg E ops)) (HW n fr (GY E sq call ops (QL E sq) (Kg E ops) [] fr A []))
  (match bK3 E ops (Kg E ops) [] none with
  |some (L1,es)=>bs (aa1 E n ops L1 es) (HW n fr (GY E sq call ops (Km E sq ops) L1 [] fr A [])) none
  |none=>none)
def P0(E:au)(d:a0o->Fr->AW->bp Fr)(ops:a0o)(fr:Fr)(A:AW):bp Fr:=
 match A.tape with
 |[]=>d ops fr A
 |nd::r=>match nd.k,nd.args with
  | .own 2,[.int _ (.ofNat t)]=>(match kW E.G.n 4 (fr.get J t) (A.pop r) with
   |some (u,A1)=>d ops (fr.set t u) A1
   |none=>none)
  |_,_=>d ops fr A
section
variable(ok:E.Ok P){sq:a0c}(aR:E.Seq P sq)
include ok aR
theorem YT{call:eL->a0e->AW->bp xM}(hc:lE P E call)(n:Nat):uF P E n (HG E sq call n):=by
 intro ro w0 ops fr A bo β a w id h hf inv;have jA:∀k,¬(Array.replicate ops.length false).getD k false=true:=fun k=>by
  by_cases hk:k<ops.length
  ·simp[hk]
  ·simp[hk]
 have aS:(⟨ops⟩:Array Oper).size=ops.length:=rfl;have ZK:∀k,bit 0 k=true↔∃x∈([]:List Tr),x.i=k:=fun k=>by
  grind [uE]
 have ak7:sZ ops.length (Array.replicate ops.length false)<=ops.length:=by
  unfold sZ;exact xH (List.length_filter_le _ _) a0C
 have hpj:PJ w0 E n ops (fr.get J) β A a.defers (fun k=>(Array.replicate ops.length false).getD k false=true) β A [] [] a {w with drawn:=w.drawn+1}:=
  ⟨fun j oj _ hj=>absurd hj (jA j),(fun x hx=>by cases hx),(fun x hx=>by cases hx),fun j hj=>absurd hj (jA j),hf,inv.drew _,(fun e he=>by cases he),af.cb _ _,xk _,rfl⟩
 have mQ:∀(FK:fq (fun o:Oper=>match o.dst with|some d=>Nat.blt d n|none=>true) ops=true),∀o∈ops,∀d,o.dst=some d->d<n:=fun FK o ho d hd=>by
  have:=pn _ _ FK o ho
  simp_all
 have fin:∀(res:List Tr×AW),HW n fr (some res)=some bo->∀β' a' w',bU β' n (gv (fun _=>True) res.1 (fr.get J)) a'.tmps->Inv w0 E.G β' res.2 w'->β.grow β' A.next->A.next<=res.2.next->a'.defers=a.defers->(Exit.normal= .normal/\pw w0 E.G n β A a.defers bo a' w'):=fun res ho β' a' w' g1 g2 g3 g4 g5=>by
  unfold HW at ho;simp only at ho;split at ho
  ·rename_i cR bu5;cases ho;refine⟨rfl,(cR,res.2),xn,β',⟨g1.1,fun t=> ?_⟩,g2,g3,g4,g5⟩;rcases V6 res.1 cR bu5 t with e|e
   ·show aj β' (cR.get J t) _;rw[e];exact g1.2 t
   ·show aj β' (cR.get J t) _;rw[e];exact .jW _
  ·cases ho
 have qB:∀x,HW n fr x=some bo->∃res,x=some res:=fun x hx=>by
  cases x with
  |none=>cases hx
  |some res=>grind
 unfold HG at h;replace h:=ax h;rcases h with⟨hp,h⟩|⟨_,h⟩
 ·unfold aa2 at hp;simp only [xf] at hp;obtain⟨⟨⟨⟨Cb,SS⟩,Ry⟩,FK⟩,_⟩:=hp;have hs:=Xc Ry;obtain⟨res,Ia⟩:=qB _ h;rw[Ia] at h;have vp:=Oz _ _ _ _ _ Ia;refine wpIn_region_any ok.mixed ?_;rw[aS];refine Xm (w0:=w0) (g0:=fr.get J) (β0:=β) (A0:=A) (ds:=a.defers) (fin:=QL E sq) (es:=0) ok aR hs (mQ FK) hc _ res (fun _=>False) (fun _ h=>h.elim) (fun aY g A2 tr Ig hw hg jZ eI fB=> ?_) (Kg E ops) [] (fr.get J) A [] 0 none vp Cb ZK trivial rfl (fun e he=>by cases he) ⟨(fun e he=>by cases he),(fun e he=>by cases he),(fun e he=>by cases he)⟩ (fun k o hk=> .inr (.inl ?_)) (fun⟨_,h⟩=>h.elim) ops.length (Array.replicate ops.length false) β a _ a0C ak7 hpj
  ·grind [aG7,hk,res]
  ·have:=Dr _ ops 0 SS k o hk;rw[Nat.zero_add] at this;exact Gz this
 ·split at h
  ·rename_i L1 es am2;replace h:=ax h;rcases h with⟨hp,h⟩|⟨_,h⟩
   ·unfold aa1 at hp;simp only [xf] at hp;obtain⟨⟨⟨⟨Cb,SS⟩,Ry⟩,FK⟩,Bz⟩:=hp;have hs:=Xc Ry;have hl:L1.getLast?=some es:=by
     split at Bz
     ·grind [Xv,xb]
     ·cases Bz
    obtain⟨res,Ia⟩:=qB _ h;rw[Ia] at h;have vp:=Oz _ _ _ _ _ Ia;refine wpIn_region_any ok.mixed ?_;rw[aS];refine Xm (w0:=w0) (g0:=fr.get J) (β0:=β) (A0:=A) (ds:=a.defers) (fin:=Km E sq ops) (es:=es) ok aR hs (mQ FK) hc _ res (fun k=>k≠es/\bit (gK ops k) es=true) (fun _ h=>h) (fun aY g A2 tr Ig hw hg jZ eI fB HB listed cG a2 w2 q1 q2 q3=> ?_) L1 [] (fr.get J) A [] 0 none vp Cb ZK trivial rfl (fun e he=>by cases he) ⟨(fun e he=>by cases he),(fun e he=>by cases he),(fun e he=>by cases he)⟩ (fun k o hk=> .inr ?_) (fun _=> .inr hl) ops.length (Array.replicate ops.length false) β a _ a0C ak7 hpj
    ·grind [aB9,res]
    ·have:=Dr _ ops 0 SS k o hk;rw[Nat.zero_add,Bool.or_eq_true,xf,Bool.not_eq_true'] at this
     grind [Gz,oQ]
   ·cases h
  ·cases h
omit aR in
theorem aB7{d:a0o->Fr->AW->bp Fr}(hd:uF P E n d):uF P E n (P0 E d):=by
 intro ro w0 ops fr A bo β a w id h hf inv;unfold P0 at h;split at h
 ·exact hd _ _ _ _ _ _ _ _ _ _ h hf inv
 ·rename_i nd r ht;split at h
  ·rename_i k t hk ha;split at h
   ·rename_i u A1 lT;have i1:=inv.pop (r:=r) (fun x hx=>a0D);obtain⟨aH,i2,g1,n1,f1⟩:=we ok (w0:=w0) (w:=w) 4 _ _ u A1 β lT i1;have aK:=i1.gC g1;have bE:bU aH n ((fr.set t u).get J) a.tmps:=⟨hf.1,fun i=>by
     by_cases Nk:t=i
     ·subst Nk;rcases T.ul J fr t u with e|⟨e,_⟩
      ·rw[e];exact f1 aH (af.cb _ _) _ ((hf.2 t).mono aK)
      ·rw[e];exact .jW _
     ·rw[T.um J fr t i u Nk];exact(hf.2 i).mono aK⟩
    have hn:A.next<=A1.next:=Nat.le_of_eq n1.symm;exact Code.wpIn_mono (fun e a' w' hh=>⟨hh.1,hh.2.mono g1 hn (fun c hc=>hc)⟩) (hd ro w0 ops _ A1 bo aH a w id h bE i2)
   ·cases h
  ·exact hd _ _ _ _ _ _ _ _ _ _ h hf inv
theorem bb6{mT:eL->a0e->AW->bp xM}(vq:lE P E mT)(aU depth:Nat):lE P E (BK E sq (HG E sq) mT aU depth):=XK ok aR (fun _ n hc=>YT ok aR hc n) vq aU depth
end
def kE(a b:Bool):Bool:=bs a b (not b)
theorem AY{a b:Bool}(h:kE a b=true):a=b:=by cases a<;>cases b<;>first|rfl|cases h
def BV(a b:Option aE):Bool:=
 match a,b with
 |some ⟨.cells x,e,ex,ro,ty⟩,some ⟨.cells y,e',ew,ep,eN⟩=>kS x y&&Nat.beq e e'&&kE ex ew&&kE ro ep&&Nat.beq ty eN
 |none,none=>true
 |_,_=>false
theorem Yo(h:BV a b=true):a=b:=by
 unfold BV at h;split at h
 ·simp only [xf] at h
  grind [mB,xb,AY]
 ·rfl
 ·cases h
def fill(k:Nat):a0l->T (Option aE):=
 Nat.rec (motive:=fun _=>a0l->T (Option aE)) (fun _=> .nil) (fun _ ih l=>List.rec (motive:=fun _=>T (Option aE)) (.node (ih []) none (ih [])) (fun a r _=> .node (ih (alt r true)) a (ih (alt r false))) l) k
def wG(k:Nat)(l:a0l):AW:=⟨fill k l,bA l,[]⟩
theorem JZ:∀(t:T (Option (Option Row))) (i:Nat) (r:Row),(join t).get none i=some r->t.get none i=some (some r)
 | .nil,i,r,h=>by cases h
 | .node l v q,i,r,h=>by
  have jr:∀x:Option Row,(T.node (join l) x (join q)).get none i=some r->(i=0/\x=some r)\/(i≠0/\(T.node l v q).get none i=some (some r)):=fun x hx=>by
   rw[T.kN] at hx;rw[T.kN];split at hx
   ·rename_i h0;exact .inl ⟨h0,hx⟩
   ·rename_i h0;refine .inr ⟨h0,?_⟩;rw[if_neg h0];split at hx
    ·rename_i h1;rw[if_pos h1];exact JZ l _ r hx
    ·rename_i h1;rw[if_neg h1];exact JZ q _ r hx
  cases v with
  |none=>
   rcases jr none h with⟨_,h2⟩|⟨_,h2⟩
   ·cases h2
   ·exact h2
  |some x=>
   rcases jr x h with⟨h1,h2⟩|⟨_,h2⟩
   ·rw[T.kN,if_pos h1,h2]
   ·exact h2
theorem YF{i:TypeInfo}(h:P.types.toList[t]? =some i):P.info? t=some i:=by
 rw[Array.getElem?_toList] at h;have hl:=(Array.getElem?_eq_some_iff.1 h).1;show P.toTables.info? t=some i;unfold Tables.info?;rw[if_pos hl];exact h
theorem Zh{r:Row}{k:Nat}(h:(join (z8 k (eY (Ll P.types.toList) P.types.toList))).get none t=some r):
 ∃i d,P.info? t=some i/\Si P.types.toList i.desc=some d/\r=⟨d,i.size,i.bytes,(EF d i.zero).1,(EF d i.zero).2⟩/\P.underlying t=some d:=by
 have h1:=Gw _ _ _ _ (JZ _ _ _ h);rw[pj,xx] at h1;obtain⟨i,hi,hr⟩:=xp.1 h1;unfold Ll at hr;split at hr
 ·rename_i d hd;cases hr;have ac4:=YF hi;refine⟨i,d,ac4,hd,rfl,?_⟩;unfold Program.underlying;rw[ac4];unfold Si at hd;obtain⟨ds,_⟩:=i;cases ds with
  |named nm u=>
   simp only [fK] at hd;split at hd
   ·rename_i j hj;cases hd;simp only [YF hj,Option.map_some]
   ·cases hd
  |_=>cases hd;rfl
 ·cases hr
theorem aN8{G:GP}{ne:a0g}{lay:List (Nat×Nat×Nat)}{mz:List (Nat×Nat)}(hm:P.follows .mixedOrders=true)(hn:∀fn∈P.funcs.toList,(fn.name== "runtime.NumGoroutine")=false)
 (bq:∀f,f∈ne->∀(x:xM) (w:World),(callFunc f #[x]).run P w= .ok (.value x) w)
 (hl:∀e u o,(e,u,o)∈lay->liesAt P P.depth e 1 o u 1=true) (ha:Nat.ble P.types.toList.length jS=true) (hq:∀δ nd,G.Q δ nd->bP δ nd) (hlx:∀w w':World,G.L w->(∀b,b<G.n->w'.heap[b]? =w.heap[b]?)->G.L w')
 (IS:∀f t,(f,t)∈mz->∃ps,∀(args:a0x) (w:World),(callFunc f args).run P w=(do pure (.value (<-Extern.BytealgMakeNoZero.makeNoZero ps #[t] args)):Sem Next).run P w:=by intro f t h;cases h):(ab1 P G ne lay mz).Ok P:=by
 refine⟨hm,fun t r h=> ?_,fun f fn h=> ?_,fun t r i z h hi hz hiz=> ?_,bq,IS,hl,fun r h=> ?_,hq,hlx⟩
 ·obtain⟨i,d,h1,h2,rfl,h4⟩:=Zh h;refine⟨h4,i,h1,rfl,rfl,fun hz=> ?_⟩;simp only at hz⊢;unfold EF at hz⊢;split at hz
  ·rename_i l xY;refine⟨_,xY,?_⟩;cases hd:nq d with
   |true=>rfl
   |false=>rw[hd] at hz;cases hz
  ·cases hz
  ·rename_i v dV UA xY;refine⟨_,xY,?_⟩;cases hd:nq d with
   |true=>rw[hd] at hz;cases hz
   |false=>cases v<;>first|rfl|(exfalso;exact dV _ rfl)|(exfalso;exact UA _ rfl)
  ·cases hz
 ·have h1:=Gw _ _ _ _ (show(z8 10 P.funcs.toList).get none f=some fn from h);exact⟨by rw[Array.getElem?_toList] at h1;exact h1,hn fn (xu h1)⟩
 ·obtain⟨i2,d,h1,h2,rfl,h4⟩:=Zh h;rw[hi] at h1;cases h1;simp only at hz⊢;rw[hiz] at hz⊢;unfold EF at hz⊢;split at hz
  ·rename_i l xY;cases xY;cases d<;>first|(cases hz;done)|exact⟨rfl,fun e=>by cases e⟩
  ·cases hz
  ·rename_i v dV UA xY;cases xY;cases d<;>first|(cases hz;done)|(cases z<;>first|exact⟨rfl,fun _=>⟨_,rfl⟩⟩|(exfalso;exact dV _ rfl)|(exfalso;exact UA _ rfl))
  ·cases hz
 ·have h1:=Gw _ _ _ _ (JZ _ _ _ (show(join (z8 11 (eY (Ll P.types.toList) P.types.toList))).get none jS=some r from h));have h2:=(xe.1 h1).1;rw[pj,xm] at h2;have:=xh ha;omega
open Go.RowKit Go.WideShapes
section
def D4(P:Program)(g:xN->Option (List xO)):Nat->List Field->Option (List xO)
 |_,[]=>some []
 |o,f::fs=>if f.offset=o/\(f.name== "_")=false then
  (match g f.type with
  |some ks=>if ks.length=P.cellsOf f.type then(match D4 P g (o+ks.length) fs with|some r=>some (ks++r)|none=>none) else none
  |none=>none)
  else none
def oN(P:Program):Nat->xN->Option (List xO)
 |0,_=>none
 |m+1,t=>
  match P.underlying t with
  |some (.int k)=>some [k]
  |some (.struct fs)=>if P.stoodInHeld t=false then D4 P (oN P m) 0 fs.toList else none
  |some (.array n e)=>(match oN P m e with
   |some ks=>if ks.length=P.cellsOf e then some (List.replicate n ks).flatten else none
   |none=>none)
  |_=>none
def C7(P:Program)(t:xN)(a:a0e)(x:xM):Prop:=
 (∃k,P.underlying t=some (.int k)/\a=[x])\/(((∃fs,P.underlying t=some (.struct fs))\/∃n e,P.underlying t=some (.array n e))/\x= .agg ⟨a⟩)
theorem JX:∀(fF oY:a0u) (a b:a0e) (r:Bool),eZ (fF++oY) a b=some r->
 ∃r1 r2,eZ fF (a.take fF.length) (b.take fF.length)=some r1/\eZ oY (a.drop fF.length) (b.drop fF.length)=some r2/\r=(r1&&r2)
 |[],oY,a,b,r,h=>⟨true,r,rfl,h,a0C⟩
 |k::fF,oY,a,b,r,h=>by
  have h':n7 k (eZ (fF++oY)) a b=some r:=h;clear h;unfold n7 at h';split at h'
  ·rename_i j m a j' n b;replace h':=ax h';rcases h' with⟨hk,h'⟩|⟨_,h'⟩
   ·split at h'
    ·rename_i r' cz;obtain⟨r1,r2,h1,h2,rfl⟩:=JX fF oY a b r' cz;cases h';refine⟨bs (mo m n) r1 false,r2,?_,h2,?_⟩
     ·show n7 k (eZ fF) (.int j m::a.take fF.length) (.int j' n::b.take fF.length)=_
      grind [n7,hk,eQ]
     ·cases mo m n
      ·grind [ku]
      grind [eQ]
    ·cases h'
   ·cases h'
  ·cases h'
theorem Gp:∀(ks:a0u) (a b:a0e) (r:Bool),eZ ks a b=some r->a.length=ks.length/\b.length=ks.length
 |[],a,b,r,h=>by
  have h':pD a b=some r:=h;unfold pD at h'
  grind
 |k::ks,a,b,r,h=>by
  have h':n7 k (eZ ks) a b=some r:=h;clear h;unfold n7 at h';split at h'
  ·rename_i j m a j' n b;replace h':=ax h';rcases h' with⟨hk,h'⟩|⟨_,h'⟩
   ·split at h'
    ·rename_i r' cz;obtain⟨h1,h2⟩:=Gp ks a b r' cz;exact⟨by simp[h1],by simp[h2]⟩
    ·cases h'
   ·cases h'
  ·cases h'
theorem aO4{k:xO}{a b:a0e}{r:Bool}(h:eZ [k] a b=some r):∃m n,a=[.int k m]/\b=[.int k n]/\r=decide (m=n):=by
 have h':n7 k pD a b=some r:=h;clear h;unfold n7 at h';split at h'
 ·rename_i j m a j' n b;replace h':=ax h';rcases h' with⟨hk,h'⟩|⟨_,h'⟩
  ·rw[xf] at hk;split at h'
   ·rename_i r' cz;unfold pD at cz;split at cz
    ·cases cz;cases h';refine⟨m,n,by rw[pY hk.1],by rw[pY hk.2],?_⟩;rw[<-oG];cases mo m n<;>rfl
    ·cases cz
   ·cases h'
  ·cases h'
 ·cases h'
theorem WI:∀(fF oY:a0u) (a:a0e),eZ (fF++oY) a a=some true->eZ fF (a.take fF.length) (a.take fF.length)=some true/\eZ oY (a.drop fF.length) (a.drop fF.length)=some true:=by
 grind [JX]
theorem OI{m:Nat}{e:xN}{ks:a0u}(hk:oN P m e=some ks):∃d i,P.underlying e=some d/\P.info? e=some i:=by
 cases m with
 |zero=>cases hk
 |succ m=>
  unfold oN at hk;cases hu:P.underlying e with
  |none=>grind
  |some d=>
   obtain⟨i,hi⟩:=info_of_underlying hu
   grind
theorem Gf(w:World){m:Nat}{e:xN}{ks:a0u}(hk:oN P m e=some ks)(hl:ks.length=P.cellsOf e)(xs:a0x)(off:Nat)(aD:off+ks.length<=xs.size):
 ∃x,(part e xs off).run P w= .ok x w/\C7 P e ((xs.toList.drop off).take ks.length) x:=by
 obtain⟨d,i,hu,hi⟩:=OI hk;have hx:(xs.extract off (off+P.cellsOf e)).toList=(xs.toList.drop off).take (P.cellsOf e):=by
  rw[Array.toList_extract];simp[List.extract]
 have oZ:(⟨(xs.toList.drop off).take ks.length⟩:a0x)=xs.extract off (off+P.cellsOf e):=by
  rw[hl,<-hx]
 cases m with
 |zero=>cases hk
 |succ m=>
  unfold oN at hk;rw[hu] at hk;cases d with
  |int k=>
   cases hk;have hs:off<xs.size:=by simp only [List.length_singleton] at aD;omega
   refine⟨xs[off],run_part_plain w (by simp[Program.plainKey,hu]) (by simp[hs]),.inl ⟨k,hu,?_⟩⟩
   grind [List.length_singleton,List.drop_eq_getElem_cons]
  |struct fs=>
   refine⟨.agg (xs.extract off (off+P.cellsOf e)),by simp[part,isAgg,run_underlying hu,run_sizeOf w hi],.inr ⟨.inl ⟨_,hu⟩,by rw[oZ]⟩⟩
  |array n e'=>
   refine⟨.agg (xs.extract off (off+P.cellsOf e)),by simp[part,isAgg,run_underlying hu,run_sizeOf w hi],.inr ⟨.inr ⟨_,_,hu⟩,by rw[oZ]⟩⟩
  |_=>cases hk
def QY(P:Program)(dd:Nat)(t:xN)(ks:a0u):Prop:=
 ∀w x y a b r,C7 P t a x->C7 P t b y->eZ ks a b=some r->(Op.equalIn dd t x y).run P w= .ok r w
def be3(P:Program)(em:Bool)(dd:Nat)(t:xN)(ks:a0u):Prop:=
 ∀w x a,C7 P t a x->eZ ks a a=some true->(Instr.checkKey em dd t x).run P w= .ok () w
theorem VD{m dd:Nat}(IH:∀t ks,oN P m t=some ks->QY P dd t ks)(w:World)(xs ys:a0x):∀(fs:List Field) (o:Nat) (ks:a0u) (r:Bool),D4 P (oN P m) o fs=some ks->
 o<=xs.size->o<=ys.size->eZ ks (xs.toList.drop o) (ys.toList.drop o)=some r->(Op.eqFields dd xs ys fs).run P w= .ok r w
 |[],o,ks,r,hf,hx,hy,hr=>by
  cases hf;have h':pD (xs.toList.drop o) (ys.toList.drop o)=some r:=hr;unfold pD at h';split at h'
  ·cases h';simp[Op.eqFields]
  ·cases h'
 |f::fs,o,ks,r,hf,hx,hy,hr=>by
  unfold D4 at hf;split at hf
  ·rename_i hc;split at hf
   ·rename_i fF fk;split at hf
    ·rename_i hl;split at hf
     ·rename_i oY gJ;cases hf;obtain⟨r1,r2,h1,h2,rfl⟩:=JX fF oY _ _ r hr;obtain⟨l1,l2⟩:=Gp _ _ _ _ h1;simp only [xz,List.length_drop,Array.length_toList] at l1 l2;have ox:o+fF.length<=xs.size:=a0B
      have oy:o+fF.length<=ys.size:=a0B
      obtain⟨x,px,vx⟩:=Gf w fk hl xs o ox;obtain⟨y,py,vy⟩:=Gf w fk hl ys o oy;have e1:=IH _ _ fk w x y _ _ r1 vx vy h1;have hn:f.name≠ "_":=fun e=>a0D
      rw[List.drop_drop,List.drop_drop] at h2;have e2:=VD IH w xs ys fs (o+fF.length) oY r2 gJ ox oy h2;rw[<-hc.1] at px py;simp only [Op.eqFields,hn,ne_eq,not_false_eq_true,if_true,Sem.run_bind,px,py,e1,Result.andThen_ok];cases r1
      ·simp
      grind
     ·cases hf
    ·cases hf
   ·cases hf
  ·cases hf
theorem VQ{m dd:Nat}{e:xN}{ks:a0u}(hk:oN P m e=some ks)(hl:ks.length=P.cellsOf e)(IH:QY P dd e ks)(w:World)(xs ys:a0x):∀(n s:Nat) (r:Bool),
 eZ (List.replicate n ks).flatten (xs.toList.drop (s*ks.length)) (ys.toList.drop (s*ks.length))=some r->(Op.eqItems dd e (P.cellsOf e) xs ys (List.range' s n)).run P w= .ok r w
 |0,s,r,hr=>by
  have h':pD (xs.toList.drop (s*ks.length)) (ys.toList.drop (s*ks.length))=some r:=hr;unfold pD at h';split at h'
  ·cases h';simp[Op.eqItems]
  ·cases h'
 |n+1,s,r,hr=>by
  rw[List.replicate_succ,List.flatten_cons] at hr;obtain⟨r1,r2,h1,h2,rfl⟩:=JX ks _ _ _ r hr;obtain⟨l1,l2⟩:=Gp _ _ _ _ h1;simp only [xz,List.length_drop,Array.length_toList] at l1 l2;have cw:∀zs:a0x,min ks.length (zs.size - s*ks.length)=ks.length->∃z,(part e zs (s*P.cellsOf e)).run P w= .ok z w/\C7 P e ((zs.toList.drop (s*ks.length)).take ks.length) z:=fun zs hz=>by
   by_cases h0:s*ks.length+ks.length<=zs.size
   ·have:=Gf w hk hl zs (s*ks.length) h0
    grind
   grind
  obtain⟨x,px,vx⟩:=cw xs l1;obtain⟨y,py,vy⟩:=cw ys l2;have e1:=IH w x y _ _ r1 vx vy h1;rw[List.drop_drop,List.drop_drop,<-Nat.succ_mul] at h2;have e2:=VQ hk hl IH w xs ys n (s+1) r2 h2;simp only [List.range'_succ,Op.eqItems,Sem.run_bind,px,py,e1,Result.andThen_ok];cases r1
  ·simp
  ·simpa using e2
theorem P2(d:Nat):∀(m:Nat) (t:xN) (ks:a0u),oN P m t=some ks->QY P (d+m) t ks
 |0,_,_,h=>by cases h
 |m+1,t,ks,hk=>by
  intro w x y a b r vx vy hr;unfold oN at hk;cases hu:P.underlying t with
  |none=>grind
  |some kd=>
   rw[hu] at hk;have agg:(∀k,kd≠ .int k)->x= .agg ⟨a⟩/\y= .agg ⟨b⟩:=fun bq=>by
    have one:∀z c,C7 P t c z->z= .agg ⟨c⟩:=fun z c hv=>by
     rcases hv with⟨k,h1,_⟩|⟨_,h⟩
     ·grind
     ·exact h
    grind
   cases kd with
   |int k=>
    cases hk;obtain⟨m1,n1,rfl,rfl,rfl⟩:=aO4 hr;have one:∀z n,C7 P t [.int k n] z->z= .int k n:=fun z n hv=>by
     rcases hv with⟨_,_,h2⟩|⟨h|h,_⟩
     ·grind
     ·grind
     grind
    rw[one x m1 vx,one y n1 vy,show d+(m+1)=(d+m)+1 from rfl,run_equalIn_int w (d+m) t k k m1 n1 hu]
    congr 1
   |struct fs=>
    obtain⟨rfl,rfl⟩:=agg (fun k e=>by cases e);simp only at hk;split at hk
    ·rename_i hs;have hfs:P.fieldsOf t=fs:=by simp[Program.fieldsOf,hu]
     rw[show d+(m+1)=(d+m)+1 from rfl,run_equalIn_struct w (d+m) t _ _ a0D hs,hfs];exact VD (fun t ks h=>P2 d m t ks h) w ⟨a⟩ ⟨b⟩ fs.toList 0 ks r hk (xL _) (xL _) hr
    ·cases hk
   |array n e=>
    obtain⟨rfl,rfl⟩:=agg (fun k e=>by cases e);simp only at hk;split at hk
    ·rename_i fF fk;split at hk
     ·rename_i hl;cases hk;obtain⟨_,i,_,hi⟩:=OI fk;rw[show d+(m+1)=(d+m)+1 from rfl,run_equalIn_array w (d+m) ⟨a⟩ ⟨b⟩ hu hi,List.range_eq_range'];exact VQ fk hl (P2 d m e fF fk) w ⟨a⟩ ⟨b⟩ n 0 r (by simpa using hr)
     ·cases hk
    ·cases hk
   |_=>cases hk
theorem Pb(em:Bool)(d:Nat):∀(m:Nat) (t:xN) (ks:a0u),oN P m t=some ks->be3 P em (d+m) t ks
 |0,_,_,h=>by cases h
 |m+1,t,ks,hk=>by
  intro w x a vx hr;unfold oN at hk;cases hu:P.underlying t with
  |none=>grind
  |some kd=>
   rw[hu] at hk;have agg:(∀k,kd≠ .int k)->x= .agg ⟨a⟩:=fun bq=>by
    rcases vx with⟨k,h1,_⟩|⟨_,h⟩
    ·grind
    ·exact h
   cases kd with
   |int k=>
    rw[show d+(m+1)=(d+m)+1 from rfl,Instr.checkKey];simp only [Sem.run_bind,run_underlying hu,Result.andThen_ok];rfl
   |struct fs=>
    obtain rfl:=agg (fun k e=>by cases e);simp only at hk;split at hk
    ·rw[show d+(m+1)=(d+m)+1 from rfl,Instr.checkKey];simp only [Sem.run_bind,run_underlying hu,Result.andThen_ok];rw[<-Array.forIn_toList];have go:∀(L:List Field) (o:Nat) (ks:a0u),D4 P (oN P m) o L=some ks->o<=a.length->eZ ks (a.drop o) (a.drop o)=some true->
      (forIn L PUnit.unit fun f (_:PUnit)=>(if f.name≠ "_" then(do
       let y<-part f.type ⟨a⟩ f.offset
       Instr.checkKey em (d+m) f.type y
       pure (ForInStep.yield PUnit.unit)) else pure (ForInStep.yield PUnit.unit):Sem (ForInStep PUnit))).run P w= .ok PUnit.unit w:=by
      intro L
      induction L with
      |nil=>simp_all
      |cons f L ih=>
       intro o ks hf ho hr;unfold D4 at hf;split at hf
       ·rename_i hc;split at hf
        ·rename_i fF fk;split at hf
         ·rename_i hl;split at hf
          ·rename_i oY gJ;cases hf;obtain⟨h1,h2⟩:=WI fF oY _ hr;obtain⟨l1,_⟩:=Gp _ _ _ _ h1;simp only [xz,List.length_drop] at l1;have ox:o+fF.length<=a.length:=a0B
           obtain⟨y,py,vy⟩:=Gf w fk hl ⟨a⟩ o a0D;have e1:=Pb em d m _ _ fk w y _ vy h1;have hn:f.name≠ "_":=fun e=>a0D
           rw[List.drop_drop] at h2;have e2:=ih (o+fF.length) oY gJ ox h2
           simp_all
          ·cases hf
         ·cases hf
        ·cases hf
       ·cases hf
     rw[go fs.toList 0 ks hk (xL _) hr];rfl
    ·cases hk
   |array n e=>
    obtain rfl:=agg (fun k e=>by cases e);simp only at hk;split at hk
    ·rename_i fF fk;split at hk
     ·rename_i hl;cases hk;obtain⟨_,i,_,hi⟩:=OI fk;rw[show d+(m+1)=(d+m)+1 from rfl,Instr.checkKey];simp only [Sem.run_bind,run_underlying hu,Result.andThen_ok];simp only [Std.Legacy.Range.forIn_eq_forIn_range',Std.Legacy.Range.size,Nat.sub_zero,Nat.add_one_sub_one,Nat.div_one];have go:∀(n s:Nat),eZ (List.replicate n fF).flatten (a.drop (s*fF.length)) (a.drop (s*fF.length))=some true->
       (forIn (List.range' s n) PUnit.unit fun i (_:PUnit)=>(do
        Instr.checkKey em (d+m) e (<-part e ⟨a⟩ (i*(<-sizeOf e)))
        pure (ForInStep.yield PUnit.unit):Sem (ForInStep PUnit))).run P w= .ok PUnit.unit w:=by
       intro n
       induction n with
       |zero=>intro s _;simp
       |succ n ih=>
        intro s hr;rw[List.replicate_succ,List.flatten_cons] at hr;obtain⟨h1,h2⟩:=WI fF _ _ hr;obtain⟨l1,_⟩:=Gp _ _ _ _ h1;simp only [xz,List.length_drop] at l1;have ox:s*fF.length+fF.length<=a.length:=by
         rcases xI fF.length with h0|h0
         ·rw[h0];simp
         ·omega
        obtain⟨y,py,vy⟩:=Gf w fk hl ⟨a⟩ (s*fF.length) a0D;have e1:=Pb em d m _ _ fk w y _ vy h1;rw[List.drop_drop,<-Nat.succ_mul] at h2;have e2:=ih (s+1) h2;rw[hl] at py;simp only [List.range'_succ,List.forIn_cons,Sem.run_bind,run_sizeOf w hi,Result.andThen_ok,py,e1,Sem.run_pure];exact e2
      simp_all
     ·cases hk
    ·cases hk
   |_=>cases hk
def Mi:List xO->List xO->Bool
 |[],[]=>true
 |a::l,b::r=>dA a b&&Mi l r
 |_,_=>false
theorem YA:∀a b,Mi a b=true->a=b
 |[],[],_=>rfl
 |[],_::_,h=>by cases h
 |_::_,[],h=>by cases h
 |a::l,b::r,h=>by
  unfold Mi at h;rw[xf] at h;rw[pY h.1,YA l r h.2]
def ah6(P:Program)(p:Nat×a0u):Bool:=
 (match oN P 4 p.1 with|some ks=>Mi ks p.2|none=>false)&&not (P.eqGuardType P.depth p.1)&&
  (match P.underlying p.1 with|some (.struct _)=>true|some (.array _ _)=>true|_=>false)
theorem bf6{sq:a0c}(h:fq (ah6 P) sq=true):E.Seq P sq:=by
 have mem:∀(l:a0c) t ks,iw l t=some ks->(t,ks)∈l:=by
  intro l
  induction l with
  |nil=>intro t ks e;cases e
  |cons p l ih=>
   intro t ks e;have e':bs (Nat.beq p.1 t) (some p.2) (iw l t)=some ks:=e;rcases ax e' with⟨h1,h2⟩|⟨_,h2⟩
   ·grind [xb,xn]
   grind
 have TK:∀t ks,iw sq t=some ks->oN P 4 t=some ks/\P.eqGuardType P.depth t=false/\((∃fs,P.underlying t=some (.struct fs))\/∃n e,P.underlying t=some (.array n e)):=fun t ks e=>by
  have h1:=pn _ _ h _ (mem sq t ks e);unfold ah6 at h1;simp only [xf,Bool.not_eq_true'] at h1
  grind [hk,YA]
 refine⟨fun t ks a b r e hr w=> ?_,fun t ks e=>(TK t ks e).2.1,fun t ks e=> ?_,fun t ks a e hr em w=> ?_⟩
 ·obtain⟨h1,_,h3⟩:=TK t ks e;exact P2 9996 4 t ks h1 w _ _ a b r (.inr ⟨h3,rfl⟩) (.inr ⟨h3,rfl⟩) hr
 ·grind
 ·obtain⟨h1,_,h3⟩:=TK t ks e;exact Pb em 9996 4 t ks h1 w _ a (.inr ⟨h3,rfl⟩) hr
end
open Go.RowKit
section
def G9(P:Program)(g:xN->DataW Unit->Option (List xM)):Nat->List Field->List (DataW Unit)->Option (List xM)
 |_,[],[]=>some []
 |o,f::fs,d::ds=>if f.offset=o then
  (match g f.type d with
  |some l=>if l.length=P.cellsOf f.type then(match G9 P g (o+l.length) fs ds with|some r=>some (l++r)|none=>none) else none
  |none=>none)
  else none
 |_,_,_=>none
def Ha(g:DataW Unit->Option (List xM))(c:Nat):List (DataW Unit)->Option (List xM)
 |[]=>some []
 |d::ds=>(match g d with
  |some l=>if l.length=c then(match Ha g c ds with|some r=>some (l++r)|none=>none) else none
  |none=>none)
def BD(P:Program):Nat->xN->DataW Unit->Option (List xM)
 |0,_,_=>none
 |m+1,t,d=>
  match d with
  | .lit (.bool b)=>(match P.underlying t with|some .bool=>some [.bool b]|_=>none)
  | .lit (.int k n)=>(match P.underlying t with|some (.int _)=>some [.int k n]|_=>none)
  | .lit (.string b)=>(match P.underlying t with|some .string=>some [.string ⟨⟨b⟩⟩]|_=>none)
  | .agg ds=>(match P.underlying t with
   |some (.struct fs)=>(match G9 P (BD P m) 0 fs.toList ds with|some l=>if l.length=P.cellsOf t then some l else none|none=>none)
   |some (.array _ e)=>(match Ha (BD P m e) (P.cellsOf e) ds with|some l=>if l.length=P.cellsOf t then some l else none|none=>none)
   |_=>none)
  |_=>none
theorem Vy{α β:Type}{f:α->Option β}{a:α}{l:List α}{r:List β}(h:(a::l).mapM f=some r):∃b r',f a=some b/\l.mapM f=some r'/\r=b::r':=by
 rw[List.mapM_cons] at h;cases h1:f a with
 |none=>grind
 |some b=>
  rw[h1] at h;cases h2:l.mapM f with
  |none=>grind
  |some r'=>grind
theorem W7{α:Type}(cs:List α)(o a b:Nat):(cs.drop o).take (a+b)=(cs.drop o).take a++(cs.drop (o+a)).take b:=by
 rw[List.take_add,List.drop_drop]
theorem Ou{w:World}{n9:Nat}{Rb:Nat->Bool}{SO:Bool}:∀(aU m:Nat) (t:xN) (cs:a0e) (d:DataW Unit) (p:List MemPlace) (l:a0e),
 DataW.trod (fun _=>()) P w n9 Rb SO aU t cs=some (d,p)->BD P m t d=some l->cs=l
 |0,m,t,cs,d,p,l,h,hl=>by cases h
 |aU+1,0,t,cs,d,p,l,h,hl=>by cases hl
 |aU+1,m+1,t,cs,d,p,l,h,hl=>by
  unfold BD at hl;cases hu:P.underlying t with
  |none=>grind
  |some kd=>
   have bM9:∀fs,kd= .struct fs->cs=l:=by
    rintro fs rfl;unfold DataW.trod at h;rw[hu] at h;simp only at h;split at h
    ·rename_i aD;obtain⟨xs,hx,e⟩:=xp.1 h;cases e;simp only [hu] at hl;split at hl
     ·rename_i l' fj;split at hl
      ·rename_i kJ;cases hl;have go:∀(L:List Field) (o:Nat) (xs:List (DataW Unit×List MemPlace)) (l:a0e),L.mapM (fun f=>DataW.trod (fun _=>()) P w n9 Rb SO aU f.type ((cs.drop f.offset).take (P.cellsOf f.type)))=some xs->
        G9 P (BD P m) o L (xs.map (·.1))=some l->(cs.drop o).take l.length=l:=by
        intro L
        induction L with
        |nil=>grind [G9]
        |cons f L ih=>
         intro o xs l h1 h2;obtain⟨b,r',e1,e2,rfl⟩:=Vy h1;rw[List.map_cons] at h2;unfold G9 at h2;split at h2
         ·rename_i ho;split at h2
          ·rename_i l1 gg;split at h2
           ·rename_i hc;split at h2
            ·rename_i l2 aW;cases h2;obtain⟨b1,b2⟩:=b;have q1:=Ou aU m _ _ _ _ _ e1 gg;have q2:=ih _ _ _ e2 aW;rw[xa,W7,q2,hc,<-ho,q1]
            ·cases h2
           ·cases h2
          ·cases h2
         ·cases h2
       grind
      ·cases hl
     ·cases hl
    ·cases h
   have bN6:∀n e,kd= .array n e->cs=l:=by
    rintro n e rfl;unfold DataW.trod at h;rw[hu] at h;simp only at h;split at h
    ·rename_i aD;obtain⟨xs,hx,e'⟩:=xp.1 h;cases e';simp only [hu] at hl;split at hl
     ·rename_i l' fj;split at hl
      ·rename_i kJ;cases hl;have go:∀(n s:Nat) (xs:List (DataW Unit×List MemPlace)) (l:a0e),(List.range' s n).mapM (fun i=>DataW.trod (fun _=>()) P w n9 Rb SO aU e ((cs.drop (i*P.cellsOf e)).take (P.cellsOf e)))=some xs->
        Ha (BD P m e) (P.cellsOf e) (xs.map (·.1))=some l->(cs.drop (s*P.cellsOf e)).take l.length=l:=by
        intro n
        induction n with
        |zero=>grind [Ha]
        |succ n ih=>
         intro s xs l h1 h2;rw[List.range'_succ] at h1;obtain⟨b,r',e1,e2,rfl⟩:=Vy h1;rw[List.map_cons] at h2;unfold Ha at h2;split at h2
         ·rename_i l1 gg;split at h2
          ·rename_i hc;split at h2
           ·rename_i l2 aW;cases h2;obtain⟨b1,b2⟩:=b;have q1:=Ou aU m _ _ _ _ _ e1 gg;have q2:=ih _ _ _ e2 aW;rw[Nat.succ_mul] at q2;rw[xa,W7,hc,q2,q1]
           ·cases h2
          ·cases h2
         ·cases h2
       rw[List.range_eq_range'] at hx
       grind
      ·cases hl
     ·cases hl
    ·cases h
   cases kd with
   |struct fs=>grind
   |array n e=>grind
   |bool=>
    unfold DataW.trod at h
    grind
   |int k=>
    unfold DataW.trod at h;rw[hu] at h;split at h<;>first|(simp at*;done)|skip
    all_goals(first|(split at h;(rename_i hq;cases h;simp only [hu] at hl;cases hl;rw[hq.1]);(cases h))|(simp_all;done))
   |string=>
    unfold DataW.trod at h;rw[hu] at h;split at h<;>first|(simp at*;done)|skip
    all_goals(first|(split at h;(cases h;simp only [hu] at hl;cases hl;rfl);(cases h))|(simp_all;done))
   |_=>
    exfalso;rw[hu] at hl;cases d with
    |lit q=>cases q<;>cases hl
    |_=>cases hl
theorem Xy{w:World}:∀{laid:List (String×DataW Unit)} {ps:List MemPlace} {n:String} {d:DataW Unit},DataW.LaidVars P w laid ps->(n,d)∈laid->
 ∃g t cs aU p,P.globalNamed n=some g/\(P.globals[g]?).map (·.type)=some t/\w.var? P n=some cs/\DataW.trod (fun _=>()) P w 0 (fun _=>true) false aU t cs.toList=some (d,p)
 |[],_,_,_,_,h=>by cases h
 |(n',d')::r,ps,n,d,hl,h=>by
  obtain⟨g,t,cs,aU,p,q,h1,h2,h3,h4,h5,_⟩:=hl;cases h with
  |head=>exact⟨g,t,cs,aU,p,h1,h2,h3,h4⟩
  |tail _ h=>exact Xy h5 h
theorem vP{laid:List (String×DataW Unit)}(h:laidMetH P laid w)(hp:(laid.all fun x=>x.2.handleName?.isNone)=true){n:String}{d:DataW Unit}{g:Nat}{l:a0e}(m:Nat)(hm:(n,d)∈laid)
 (hg:P.globalNamed n=some g) (ht:(P.globals[g]?).map (·.type)=some t) (hl:BD P m t d=some l):∃e fz,w.heap[g]? =some (.cells ⟨l⟩ e fz):=by
 rw[MakeChecks.laidMetH_plain _ _ _ hp] at h;obtain⟨ps,h1,_⟩:=h;obtain⟨g',t',cs,aU,p,e1,e2,e3,e4⟩:=Xy h1 hm;rw[hg] at e1;cases e1;rw[ht] at e2;cases e2;have:=Ou aU m _ _ _ _ _ e4 hl;simp only [World.var?,hg,xB] at e3;split at e3
 ·rename_i bC e fz hh;cases e3;exact⟨e,fz,by rw[hh,<-this]⟩
 ·cases e3
theorem yM:∀(k:Nat) (l:a0l) (i:Nat) (x:aE),(fill k l).get none i=some x->l[i]? =some (some x)
 |0,l,i,x,h=>by cases h
 |k+1,[],i,x,h=>by
  have h':(T.node (fill k []) none (fill k [])).get none i=some x:=h;rw[T.kN] at h';split at h'
  ·cases h'
  ·split at h'
   ·have:=yM k _ _ _ h';simp at this
   ·have:=yM k _ _ _ h';simp at this
 |k+1,a::r,i,x,h=>by
  have h':(T.node (fill k (alt r true)) a (fill k (alt r false))).get none i=some x:=h;rw[T.kN] at h';split at h'
  ·rename_i h0;subst h0;rw[h'];rfl
  ·split at h'
   ·have:=yM k _ _ _ h';rw[DO] at this;rw[show i=2*(i/2)+1 by omega,List.getElem?_cons_succ];simpa using this
   ·have:=yM k _ _ _ h';rw[DO] at this;rw[show i=(2*(i/2 - 1)+1)+1 by omega,List.getElem?_cons_succ];simpa using this
def zG(v:xM):Bool:=match v with| .bool _=>true| .int _ _=>true| .string _=>true|_=>false
theorem aM2(β:af){v:xM}(h:zG v=true):aj β v v:=by
 unfold zG at h;split at h
 ·exact .bool _
 ·exact .int _ _
 ·exact .string _
 ·cases h
def EH(L:a0l)(δ:a0j:=fun _=>none)(z:a0n:=fun _=>none):af where
 f:=fun g=>match L[g]? with
  |some (some ⟨.cells cs,es,_,_,_⟩)=>some ⟨g,0,es,cs.length⟩
  |some none=>some ⟨g,0,0,0⟩
  |_=>none
 z:=z
 d:=δ
 x:=⟨fun _=>False,z⟩
 o:=fun _=>none
theorem GV(L:a0l)(δ:a0j)(z:a0n)(g:Nat):(EH L δ z) g=match L[g]? with|some (some ⟨.cells cs,es,_,_,_⟩)=>some ⟨g,0,es,cs.length⟩|some none=>some ⟨g,0,0,0⟩|_=>none:=rfl
def QX(L:a0l)(w:World):Prop:=∀g,g<L.length->L[g]? =some none\/∃cs es,L[g]? =some (some ⟨.cells cs,es,false,true,jS⟩)/\(cs.all zG)=true/\∃e fz,w.heap[g]? =some (.cells ⟨cs⟩ e fz)
theorem aE2{k:Nat}{L:a0l}(hL:QX L w):
 ∀(Q:(a0j)->Node->Prop) (LL:World->Prop) (δ:a0j) (z:a0n) (tape:List Node),LL w->L.length<=w.heap.size->wk z w->(∀nd∈tape,Q δ nd)->Inv w ⟨L.length,Q,LL⟩ (EH L δ z) ((wG k L).pop tape) w:=by
 intro Q LL δ z tape UX aS bg Ut;have ak5:∀g l,EH L δ z g=some l->g<L.length/\l.b=g/\l.d=0/\(L[g]? =some none\/∃cs es e fz,L[g]? =some (some ⟨.cells cs,es,false,true,jS⟩)/\(cs.all zG)=true/\w.heap[g]? =some (.cells ⟨cs⟩ e fz)/\l=⟨g,0,es,cs.length⟩):=fun g l hl=>by
  have hg:g<L.length:=by
   rw[GV] at hl;split at hl
   ·grind
   ·grind
   ·cases hl
  rcases hL g hg with h1|⟨cs,es,h1,h2,e,fz,h3⟩
  ·rw[GV,h1] at hl
   grind
  ·rw[GV,h1] at hl
   grind
 have Bw:(wG k L).next=L.length:=du L;refine⟨n4.refl _ _,fun B l h=> ?_,fun B h=> ?_,fun B l h=> ?_,fun B B' l l' h h' hb _ _=> ?_,fun B blk l h h'=> ?_,fun g hg=> ?_,bg,(fun B l kb hG h ha hs=>absurd (ak5 B l h).1 (Nat.not_lt.2 hG)),Ut,fun B k' hk=> ?_,(fun B v h=>by cases h),UX,(fun b h=>h.elim),aS,fun b c h=> .inl h,(fun b hh hy=>by cases hy)⟩
 ·show B<(wG k L).next;grind
 ·have h:(wG k L).next<=B:=h;rw[Bw] at h;show(wG k L).get B=none;cases hq:(wG k L).get B with
  |none=>rfl
  |some x=>
   have:=yM k L B x hq
   grind
 ·grind
 ·grind
 ·obtain⟨hg,_,_,hq⟩:=ak5 B l h';have:=yM k L B blk h;rcases hq with h1|⟨cs,es,e,fz,h1,h2,hh,rfl⟩
  ·grind
  ·rw[h1] at this;cases this;refine⟨⟨cs⟩,e,fz,hh,a0C,a0C,(fun i v hv=>⟨v,a0D,aM2 _ (List.all_eq_true.1 h2 v (xu hv))⟩),(fun h=>by cases h),(fun h=>by cases h),rfl,(fun h=>absurd rfl h)⟩
 ·rcases hL g hg with h1|⟨cs,es,h1,h2,e,fz,h3⟩
  ·refine⟨⟨g,0,0,0⟩,?_,rfl,rfl⟩;rw[GV,h1]
  ·refine⟨⟨g,0,es,cs.length⟩,?_,rfl,rfl⟩;rw[GV,h1]
 ·have hq:=yM k L B k' hk;rcases hL B (xe.1 hq).1 with h1|⟨cs,es,h1,_⟩
  ·grind
  ·rw[hq] at h1;cases h1;trivial
end
def RdL(z:a0n)(ds:a0d)(vs:a0e):Prop:=ds.length=vs.length/\∀(i:Nat) (d:D) (v:xM),ds[i]? =some d->vs[i]? =some v->Rd z d v
def FnC(P:Program)(L:World->Prop)(f:FuncId)(ds:a0d)(out:D):Prop:=
 ∀(w:World) (z:a0n) (args':a0e),L w->wk z w->RdL z ds args'->
  Calls P f ⟨args'⟩ w fun e w'=>∃v z',e= .returned v/\Below w.heap.size w w'/\wk z' w'/\(∀b c,z b=some c->z' b=some c)/\(∀b c,z' b=some c->z b=some c\/w.heap.size<=b)/\Rd z' out v
def ag7(P:Program)(L:World->Prop)(δ:a0j)(nd:Node)(f:FuncId):Prop:=
 ∃ds d,aI (bR δ) nd.args=some ds/\res δ nd.res=some d/\FnC P L f ds d
def GQ(P:Program)(L:World->Prop)(δ:a0j)(nd:Node):Prop:=
 match nd.k with
 | .call f=>ag7 P L δ nd f
 |_=>bP δ nd
theorem GQ.op{δ:a0j}(h:GQ P L δ nd):bP δ nd:=by
 grind [GQ,hk,bP]
theorem GQ.call{δ:a0j}{f:FuncId}(h:GQ P L δ nd)(hk:nd.k= .call f):ag7 P L δ nd f:=by
 grind [GQ,hk]
section
variable(ok:E.Ok P)(inv:Inv w0 E.G β A w)
include ok inv in
theorem Inv.laid:E.G.L w:=ok.lx w0 w inv.lay fun b hb=>inv.below.block b (xK hb inv.jP) (fun hx=>by have:=inv.xg b hx;omega)
theorem Inv.fresh(inv:Inv w0 E.G β A w){z':a0n}(hb:Below w.heap.size w w')(bg:wk z' w')(h1:∀b c,β.z b=some c->z' b=some c)(h2:∀b c,z' b=some c->β.z b=some c\/w.heap.size<=b):
 Inv w0 E.G {β with z:=z'} A w'/\β.grow {β with z:=z'} A.next:=by
 have hg:β.grow {β with z:=z'} A.next:=⟨fun _ _=>rfl,h1,fun _ _=>rfl,rfl,rfl⟩;have aK:=inv.gC hg;refine⟨⟨inv.below.trans ⟨hb.os,hb.tape,hb.output,hb.size,fun k hk _=>hb.block k hk⟩,inv.fI,inv.cW,fun B l e=>⟨xK (inv.loc B l e).1 hb.size,(inv.loc B l e).2⟩,inv.inj,fun B blk l hk e=> ?_,inv.jk,bg,fun B l blk hG e hk hs=> ?_,inv.dJ,
  fun B k hk=>(inv.own B k hk).mono aK,inv.iB,inv.lay,inv.xg,inv.jP,fun b c h=>(h2 b c h).elim (fun h=>inv.zo b c h) (fun h=> .inr (.inl (xH inv.below.size h))),fun b hh hy=> ?_⟩,hg⟩
 ·rw[hb.block l.b (inv.loc B l e).1];exact(inv.cont B blk l hk e).mono aK
 ·cases hz:z' l.b with
  |none=>exact hz
  |some c=>
   exfalso;rcases h2 _ _ hz with h|h
   ·grind [hk,inv.sep]
   ·have:=(inv.loc B l e).1;omega
 ·obtain⟨y1,y2,y3,y4⟩:=inv.dR b hh hy;have bM:=(Array.getElem?_eq_some_iff.1 y1).1;refine⟨by grind [hb.block],?_,y3,y4⟩;show z' b=none;cases hz:z' b with
  |none=>rfl
  |some c=>
   grind
end
section
end
end
end Go.Ex
