/- A verified evaluator of Go functions. -/
import Derived.Test.YtaginlnifpbfgaaGreatDoorX8
import Derived.Test.YtaginlnifpbfgaaGreatDoorX7
import Derived.DeepKeys3
import Derived.ProofKit
import Derived.Stop.Joined
import GoSem.ClaimJoined
import Derived.MakeChecks
set_option linter.unusedVariables false
set_option linter.unusedSimpArgs false
namespace Go.Ex
open Go.RowKit
noncomputable section
def Br(E:aq)(sq:List (Nat×List xO))(ops:List Oper)(A:AW)(g:Gt)(o:Oper):Option (xM×AW×List Nat):=
 match qb ops g o with
 |none=>none
 |some false=>some (undef,A,[])
 |some true=>match aF E sq A g o.op with
  | .val v A'=>bs (Nat.beq (fj E o.op) 0) (some (v,A',[])) (match o.op with
   | .store _ a _=>(match ev E g a with| .pointer (some ⟨B,_,_⟩)=>some (v,A',[B])|_=>none)
   |_=>none)
  |_=>none
def wB(ops:List Oper)(bJ:Nat):List Nat:=
 hM (fun i=>match dB ops i with|some o=>not (bit bJ i)&&Gz bJ o|none=>false) (sE (fun i=>i) (bI ops) [])
def Ro(E:aq)(sq:List (Nat×List xO))(ops:List Oper)(EN:Gt→AW→List Nat→Bool)(aN:Nat):Nat→Gt→AW→List Nat→Bool:=
 Nat.rec (motive:=fun _=>Nat→Gt→AW→List Nat→Bool) (fun _ _ _ _=>false)
  (fun _ ih bJ g A tb=>match wB ops bJ with
   |[]=>EN g A tb
   |r::rs=>ey (fun i=>match dB ops i with
    |none=>false
    |some o=>match Br E sq ops A g o with
     |none=>false
     |some (v,A',t)=>ih (Nat.lor bJ (Nat.pow 2 i)) (gU g o.dst v) A' (aa t tb)) (r::rs)) aN
def RG(E:aq)(sq:List (Nat×List xO))(ops:List Oper)(aN:Nat):Nat→Gt→AW→List Tr→List Nat→Option (Gt×AW×List Tr×List Nat):=
 Nat.rec (motive:=fun _=>Nat→Gt→AW→List Tr→List Nat→Option (Gt×AW×List Tr×List Nat)) (fun _ _ _ _ _=>none)
  (fun _ ih bJ g A tr tb=>match wB ops bJ with
   |[]=>some (g,A,tr,tb)
   |i::_=>match dB ops i with
    |none=>none
    |some o=>match Br E sq ops A g o with
     |none=>none
     |some (v,A',t)=>ih (Nat.lor bJ (Nat.pow 2 i)) (gU g o.dst v) A' (⟨i,o.dst,v⟩::tr) (aa t tb)) aN
def RW(a b:Option ao):Bool:=match a,b with|some x,some y=>Lz x y|none,none=>true|_,_=>false
def YK(ops:List Oper)(mask0:Nat)(gc:Gt)(Ac:AW)(rj:List Nat)(g:Gt)(A:AW)(tb:List Nat):Bool:=
 ey (fun B=>RW (A.get B) (Ac.get B)) (aa tb rj)&&tQ (fun i o=>bs (bit mask0 i) true (match o.dst with|none=>true|some d=>uu (g d) (gc d))) ops 0
def rT(tr:List Tr):Nat:=List.rec (motive:=fun _=>Nat) 0 (fun x _ m=>Nat.lor m (Nat.pow 2 x.i)) tr
def J0(E:aq)(sq:List (Nat×List xO))(ops:List Oper)(aS:List fh)(g:Gt)(A:AW)(tr:List Tr):Option (List Tr×AW):=
 match aS with
 |[]=>match RG E sq ops (Nat.add (bI ops) 1) (rT tr) g A tr [] with
  |some (gc,Ac,sS,rj)=>bs (Ro E sq ops (YK ops (rT tr) gc Ac rj) (Nat.add (bI ops) 1) (rT tr) g A []) (some (sS,⟨Ac.heap,Ac.next,A.tape⟩)) none
  |none=>none
 |_=>none
theorem aI0{E:aq}{A A':AW}{t:xN}{a x:xM}(h:zc E A t a x=some A'):∃B o aj,a= .pointer (some ⟨B,o,none⟩)∧A'=A.put B (some aj):=by
 unfold zc at h;split at h
 ·split at h
  ·replace h:=au h;rcases h with⟨_,h⟩|⟨_,h⟩<;>cases h
   exact⟨_,_,_,rfl,rfl⟩
  ·cases h
 ·cases h
theorem U0{E:aq}{sq:List (Nat×List xO)}{ops:List Oper}{A A':AW}{g:Gt}{o:Oper}{v:xM}{t:List Nat}(h:Br E sq ops A g o=some (v,A',t)):
 (∃wd,qb ops g o=some wd∧(wd=false→v=undef∧A'=A)∧(wd=true→aF E sq A g o.op= .val v A'))∧A'.next=A.next∧∀C,C∉t→A'.get C=A.get C:=by
 unfold Br at h;split at h
 ·cases h
 ·rename_i hw;cases h;exact⟨⟨false,hw,fun _=>⟨rfl,rfl⟩,fun e=>by cases e⟩,rfl,fun _ _=>rfl⟩
 ·rename_i hw;split at h
  ·rename_i v1 A1 eE;replace h:=au h;rcases h with⟨hk,h⟩|⟨_,h⟩
   ·cases h;have:=N3 (xb hk) eE;subst this;exact⟨⟨true,hw,(fun e=>by cases e),fun _=>eE⟩,rfl,fun _ _=>rfl⟩
   ·split at h
    ·rename_i ty ad x ho;split at h
     ·rename_i B of md yF;cases h;have vv:=eE;rw[ho] at vv;simp only [aF] at vv;obtain⟨aQ,_⟩:=Bc vv;obtain⟨B2,o2,aj,ha,rfl⟩:=aI0 aQ;rw[yF] at ha;cases ha;refine⟨⟨true,hw,(fun e=>by cases e),fun _=>eE⟩,rfl,fun C hC=> ?_⟩;rcases A.ja B (some aj) C with⟨_,e⟩|⟨_,e⟩|⟨e,_⟩
      ·exact absurd (by simp[e]) hC
      ·exact absurd (by simp[e]) hC
      ·exact e
     ·cases h
    ·cases h
  ·cases h
theorem Inv.ext{w0 w:World}{G:GP}{β:af}{A A':AW}(h:Inv w0 G β A w)(hg:∀C,A'.get C=A.get C)(hn:A'.next=A.next)(ht:∀nd∈A'.tape,G.Q β.d nd):Inv w0 G β A' w:=
 ⟨h.below,fun B l e=>by rw[hn];exact h.g9 B l e,fun B hB=>by rw[hg];exact h.dz B (by rw[←hn];exact hB),h.loc,fun B B' l l' e e' eo ha iW=>h.inj B B' l l' e e' eo (by rw[←hg];exact ha) (by rw[←hg];exact iW),
  fun B aj l hb e=>h.cont B aj l (by rw[←hg];exact hb) e,h.jg,h.bB,fun B l kb hG e ha hs=>h.sep B l kb hG e (by rw[←hg];exact ha) hs,ht,fun B k hk=>h.own B k (by rw[←hg];exact hk),fun B v e=>(by rw[hn];exact h.jf B v e),h.lay,h.xg,h.jA,h.zo⟩
theorem be2{a b:Option ao}(h:RW a b=true):a=b:=by
 unfold RW at h;split at h
 ·rw[JH h]
 ·rfl
 ·cases h
theorem Kz(bJ i q:Nat):bit (Nat.lor bJ (Nat.pow 2 i)) q=(bit bJ q||decide (i=q)):=by
 rw[u9,u9];show(bJ|||2^i).testBit q=_;rw[Nat.testBit_or,Nat.testBit_two_pow]
theorem Vt:∀(tr:List Tr) (k:Nat),bit (rT tr) k=true↔∃x∈tr,x.i=k
 |[],k=>by
  rw[show rT []=0 from rfl,u9,Nat.zero_testBit];constructor
  ·intro e;cases e
  ·rintro⟨x,hx,_⟩;cases hx
 |x::tr,k=>by
  rw[show rT (x::tr)=Nat.lor (rT tr) (Nat.pow 2 x.i) from rfl,Kz,Bool.or_eq_true,Vt tr k];constructor
  ·rintro(⟨y,hy,Ng⟩|e)
   ·exact⟨y,xo _ hy,Ng⟩
   ·exact⟨x,xn,of_decide_eq_true e⟩
  ·rintro⟨y,hy,Ng⟩;cases hy with
   |head=>exact .inr (decide_eq_true Ng)
   |tail _ hy=>exact .inl ⟨y,hy,Ng⟩
theorem N4{ops:List Oper}{bJ i:Nat}:i∈wB ops bJ↔∃o,ops[i]? =some o∧bit bJ i=false∧∀e∈o.after.toList,Region.binds .any e=true→bit bJ e.on=true:=by
 unfold wB;rw[tk,List.mem_filter,za,dA];simp only [List.map_id',xj,List.mem_range,eM];have ez:∀o:Oper,Gz bJ o=true↔∀e∈o.after.toList,Region.binds .any e=true→bit bJ e.on=true:=fun o=>by
  unfold Gz;generalize o.after.toList=l
  induction l with
  |nil=>simp[ey]
  |cons e l ih=>
   have hl:ey (fun e=>bs (Region.binds .any e) (bit bJ e.on) true) (e::l)=bs (bs (Region.binds .any e) (bit bJ e.on) true) (ey (fun e=>bs (Region.binds .any e) (bit bJ e.on) true) l) false:=rfl;rw[hl];simp only [xG,forall_eq_or_imp];rw[←ih];cases Region.binds .any e<;>cases bit bJ e.on<;>simp only [eg,gN]<;>simp
 constructor
 ·rintro⟨_,h⟩;split at h
  ·rename_i o ho;rw[xf,Bool.not_eq_true'] at h;exact⟨o,ho,h.1,(ez o).1 h.2⟩
  ·cases h
 ·rintro⟨o,ho,h1,h2⟩;refine⟨(xe.1 ho).1,?_⟩;rw[ho];simp only [h1,Bool.not_false,Bool.true_and];exact(ez o).2 h2
section
variable{P:Program}{E:aq}(ok:E.Ok P){sq:List (Nat×List xO)}(ba:E.Seq P sq){w0:World}{n:Nat}{ops:List Oper}(kM:∀o∈ops,∀d,o.dst=some d→d<n){β0:af}{A0:AW}{ds:List Deferred}{ro:Option Nat}
def z3(ops:List Oper)(mask0:Nat)(g1:Gt)(A1:AW)(g:Gt)(A:AW)(tb:List Nat):Prop:=
 (∀C,C∉tb→A.get C=A1.get C)∧A.next=A1.next∧∀t,(∀(i:Nat) (o:Oper),ops[i]? =some o→bit mask0 i=false→o.dst≠some t)→g t=g1 t
theorem z3.step{mask0:Nat}{g1 g:Gt}{A1 A A':AW}{tb t:List Nat}{i:Nat}{o:Oper}{v:xM}(h:z3 ops mask0 g1 A1 g A tb)(ho:ops[i]? =some o)(hi:bit mask0 i=false)(h1:Br E sq ops A g o=some (v,A',t)):z3 ops mask0 g1 A1 (gU g o.dst v) A' (aa t tb):=by
 obtain⟨_,hn,hg⟩:=U0 h1;refine⟨fun C hC=> ?_,hn.trans h.2.1,fun s hs=> ?_⟩
 ·rw[jm,xF] at hC;rw[hg C (fun e=>hC (.inl e))];exact h.1 C (fun e=>hC (.inr e))
 ·rw[C5,if_neg (hs i o ho hi)];exact h.2.2 s hs
include ok ba kM in
theorem W3{EN:Gt→AW→List Nat→Bool}{mask0:Nat}{g1:Gt}{A1:AW}(Q:Exit→Act→World→Prop)
 (ZS:∀g A tb β a w,EN g A tb=true→z3 ops mask0 g1 A1 g A tb→cf β n g a.tmps→Inv w0 E.G β A w→β0.grow β A0.next→A0.next≤A.next→a.defers=ds→Q .normal a w):
 ∀(Em bJ:Nat) (g:Gt) (A:AW) (tb:List Nat) (listed:Array Bool) (β:af) (a:Act) (w:World) (aN:Nat),Ro E sq ops EN Em bJ g A tb=true→(∀k,bit bJ k=true↔listed.getD k false=true)→(∀k,bit mask0 k=true→bit bJ k=true)→
  listed.size=ops.length→tO ops.length listed≤aN→z3 ops mask0 g1 A1 g A tb→cf β n g a.tmps→Inv w0 E.G β A w→β0.grow β A0.next→A0.next≤A.next→a.defers=ds→wpAnyIn (jY ro) 0 P .any ⟨ops⟩ Q aN listed a w
 |0,bJ,g,A,tb,listed,β,a,w,aN,h,hm,kS,aT,eE,hk,hf,inv,kT,iK,hd=>by cases h
 |Em+1,bJ,g,A,tb,listed,β,a,w,aN,h,hm,kS,aT,eE,hk,hf,inv,kT,iK,hd=>by
  have h':(match wB ops bJ with
   |[]=>EN g A tb
   |r::rs=>ey (fun i=>match dB ops i with
    |none=>false
    |some o=>match Br E sq ops A g o with
     |none=>false
     |some (v,A',t)=>Ro E sq ops EN Em (Nat.lor bJ (Nat.pow 2 i)) (gU g o.dst v) A' (aa t tb)) (r::rs))=true:=h
  clear h;have vT:∀i,i∈Region.ready .any ⟨ops⟩ listed→i∈wB ops bJ:=fun i hi=>by
   obtain⟨o,ho,hn,hr⟩:=C0 aT hi;exact N4.2 ⟨o,ho,by cases hb:bit bJ i with|false=>rfl|true=>exact absurd ((hm i).1 hb) hn,fun e he hb=>(hm e.on).2 (hr e he hb)⟩
  split at h'
  ·rename_i cN1;have ez:Region.ready .any ⟨ops⟩ listed=[]:=List.eq_nil_iff_forall_not_mem.2 fun i hi=>by have:=vT i hi;rw[cN1] at this;cases this
   have hq:=ZS g A tb β a w h' hk hf inv kT iK hd;cases aN with
   |zero=>exact⟨ez,hq⟩
   |succ aN=>exact⟨fun _=>hq,fun i hi=>by rw[ez] at hi;cases hi⟩
  ·rename_i r rs zU;obtain⟨o0,FB,uP,iJ⟩:=N4.1 (show r∈wB ops bJ by rw[zU];exact xn);have oh: ¬listed.getD r false=true:=fun e=>by rw[(hm r).2 e] at uP;cases uP
   have cN9:=(xe.1 FB).1;have hos:=A8 cN9 aT (by simpa using oh);cases aN with
   |zero=>omega
   |succ aN=>
    refine⟨fun ez=> ?_,fun i hi=> ?_⟩
    ·have:=Ju FB aT oh (fun e he hb=>(hm e.on).1 (iJ e he hb));rw[ez] at this;cases this
    ·obtain⟨o,ho,hn,hr⟩:=C0 aT hi;have bg:=(xe.1 ho).1;have eT:=nI _ _ h' i (by rw[←zU];exact vT i hi);simp only [eM,ho] at eT;split at eT
     ·cases eT
     ·rename_i v A' t h1;have Nw:bit bJ i=false:=by cases hb:bit bJ i with|false=>rfl|true=>exact absurd ((hm i).1 hb) hn
      have SO:bit mask0 i=false:=by cases hb:bit mask0 i with|false=>rfl|true=>rw[kS i hb] at Nw;cases Nw
      have bW:=hk.step ho SO h1;obtain⟨⟨wd,hw,hwf,Fw⟩,gY,_⟩:=U0 h1;have dj3:=A8 bg aT (by simpa using hn);have EU:∀ah v' w',ai ah v v'→Inv w0 E.G ah A' w'→β.grow ah A.next→wpAnyIn (jY ro) 0 P .any ⟨ops⟩ Q aN (listed.setIfInBounds i true) (a.put o.dst v') w':=fun ah v' w' hv bV Mf=>by
       have aK:=inv.fX Mf;refine W3 Q ZS Em _ _ _ _ _ ah _ w' aN eT (fun k=> ?_) (fun k jQ=> ?_) (by simp[aT]) (by omega) bW ((hf.mono aK).gU (fun d hd=>kM o (xu ho) d hd) hv) bV (af.iZ kT Mf iK) (by rw[gY];exact iK) ?_
       ·have:=congrFun (KF (listed:=listed) (i:=i) (by rw[aT];exact bg)) k;rw[Kz,Bool.or_eq_true,hm k,decide_eq_true_iff];rw[show((listed.setIfInBounds i true).getD k false=true)=(listed.getD k false=true∨k=i) from this];exact or_congr Iff.rfl eq_comm
       ·rw[Kz,kS k jQ];rfl
       ·cases o.dst<;>exact hd
      unfold wpOpIn;have vv:(⟨ops⟩:Array Oper)[i]? =some o:=by simpa using ho
      simp only [vv];rw[Gf hw hf];cases wd with
      |false=>
       rw[if_neg (by simp)];obtain⟨rfl,rfl⟩:=hwf rfl;exact⟨fun _ _=>trivial,EU β undef w ai.undef inv (af.cq _ _)⟩
      |true=>
       rw[if_pos rfl];exact bb3 ok ba inv hf (Fw rfl) (fun ah v' w' hv bV Mf _=>EU ah v' w' hv bV Mf)
theorem Vl{mask0:Nat}{g0 g1:Gt}{A1:AW}:∀(aN bJ:Nat) (g:Gt) (A:AW) (tr:List Tr) (tb:List Nat) (gc:Gt) (Ac:AW) (sS:List Tr) (rj:List Nat),RG E sq ops aN bJ g A tr tb=some (gc,Ac,sS,rj)→(∀k,bit mask0 k=true→bit bJ k=true)→
 g=gv (fun _=>True) tr g0→z3 ops mask0 g1 A1 g A tb→gc=gv (fun _=>True) sS g0∧z3 ops mask0 g1 A1 gc Ac rj
 |0,bJ,g,A,tr,tb,gc,Ac,sS,rj,h,kS,hg,hk=>by cases h
 |aN+1,bJ,g,A,tr,tb,gc,Ac,sS,rj,h,kS,hg,hk=>by
  have h':(match wB ops bJ with
   |[]=>some (g,A,tr,tb)
   |i::_=>match dB ops i with
    |none=>none
    |some o=>match Br E sq ops A g o with
     |none=>none
     |some (v,A',t)=>RG E sq ops aN (Nat.lor bJ (Nat.pow 2 i)) (gU g o.dst v) A' (⟨i,o.dst,v⟩::tr) (aa t tb))=some (gc,Ac,sS,rj):=h
  clear h;split at h'
  ·cases h';exact⟨hg,hk⟩
  ·rename_i i rs zU;obtain⟨o0,FB,uP,iJ⟩:=N4.1 (show i∈wB ops bJ by rw[zU];exact xn);simp only [eM,FB] at h';split at h'
   ·cases h'
   ·rename_i v A' t h1;have SO:bit mask0 i=false:=by cases hb:bit mask0 i with|false=>rfl|true=>rw[kS i hb] at uP;cases uP
    refine Vl aN _ _ _ _ _ gc Ac sS rj h' (fun k jQ=>by rw[Kz,kS k jQ];rfl) ?_ (hk.step FB SO h1);rw[NW,hg]
include ok ba kM in
theorem aL9{g0:Gt}{aS:List fh}{g:Gt}{A:AW}{tr:List Tr}{res:List Tr×AW}(h:J0 E sq ops aS g A tr=some res)(hg:g=gv (fun _=>True) tr g0)
 (Q:Exit→Act→World→Prop) (hQ:∀β a w,cf β n (gv (fun _=>True) res.1 g0) a.tmps→Inv w0 E.G β res.2 w→β0.grow β A0.next→A0.next≤res.2.next→a.defers=ds→Q .normal a w) (aN:Nat)
 (listed:Array Bool) (β:af) (a:Act) (w:World) (aT:listed.size=ops.length) (eE:tO ops.length listed≤aN) (j:PJ w0 E n ops g0 β0 A0 ds (fun k=>listed.getD k false=true) β A aS tr a w):wpAnyIn (jY ro) 0 P .any ⟨ops⟩ Q aN listed a w:=by
 unfold J0 at h;split at h;rotate_left
 ·cases h
 split at h;rotate_left
 ·cases h
 rename_i gc Ac sS rj cL4;replace h:=au h;rcases h with⟨hen,h⟩|⟨_,h⟩;rotate_left
 ·cases h
 cases h;have all:∀x∈tr,listed.getD x.i false=true:=fun x hx=>Classical.byContradiction fun hn=>by
  obtain⟨e,he,_⟩:=j.un x hx hn;cases he
 have uN:cf β n g a.tmps:=by
  have:=j.frame;rw[Ks (D':=fun _=>True) (fun x hx=>⟨fun _=>trivial,fun _=>all x hx⟩),←hg] at this;exact this
 have jQ:z3 ops (rT tr) g A g A []:=⟨fun _ _=>rfl,rfl,fun _ _=>rfl⟩;obtain⟨hgc,T3⟩:=Vl (mask0:=rT tr) (g0:=g0) (g1:=g) (A1:=A) _ _ _ _ _ _ gc Ac sS rj cL4 (fun _ h=>h) hg jQ;refine W3 ok ba kM (mask0:=rT tr) (g1:=g) (A1:=A) Q (fun g2 A2 tb2 cK a2 w2 hl jP bE cK8 Me cM6 io=> ?_) _ _ g A [] listed β a w aN hen (fun k=> ?_) (fun _ h=>h) aT eE jQ uN j.inv j.grow j.dz j.defers
 ·unfold YK at hl;rw[xf] at hl;have rc:∀C,(⟨Ac.heap,Ac.next,A.tape⟩:AW).get C=A2.get C:=fun C=>by
   by_cases hC:C∈aa tb2 rj
   ·exact(be2 (nI _ _ hl.1 C hC)).symm
   ·rw[jm,xF] at hC;exact(T3.1 C (fun e=>hC (.inr e))).trans (jP.1 C (fun e=>hC (.inl e))).symm
  have iK:(⟨Ac.heap,Ac.next,A.tape⟩:AW).next=A2.next:=T3.2.1.trans jP.2.1.symm;refine hQ cK a2 w2 (bE.ext fun t=> ?_) (cK8.ext rc iK (fun nd c6=>by rw[Me.d,←j.grow.d];exact j.inv.eO nd c6)) Me (by rw[show(sS,(⟨Ac.heap,Ac.next,A.tape⟩:AW)).2.next=A2.next from iK];exact cM6) io;show gv (fun _=>True) sS g0 t=g2 t;rw[←hgc];by_cases ht:∃(i:Nat) (o:Oper),ops[i]? =some o∧bit (rT tr) i=false∧o.dst=some t
  ·obtain⟨i,o,ho,hb,hd⟩:=ht;have:=Dc _ ops 0 hl.2 i o ho;rw[Nat.zero_add,hb,gN,hd] at this;exact(Dp this).symm
  ·have gX:∀(i:Nat) (o:Oper),ops[i]? =some o→bit (rT tr) i=false→o.dst≠some t:=fun i o ho hb hd=>ht ⟨i,o,ho,hb,hd⟩
   rw[T3.2.2 t gX,jP.2.2 t gX]
 ·rw[Vt];constructor
  ·rintro⟨x,hx,rfl⟩;exact all x hx
  ·exact j.only k
end
def cT1(E:aq)(ops:List Oper)(L:List Nat):List Nat→Option (List Nat×Nat)→Option (List Nat×Nat):=
 List.rec (motive:=fun _=>List Nat→Option (List Nat×Nat)→Option (List Nat×Nat)) (fun _ S5=>S5)
  (fun i r ih cF S5=>ih (aa cF [i]) (bs (match dB ops i with|some o=>Nat.ble 2 (fj E o.op)&&ey (fun k=>bit (fN ops k) i) r&&yk E ops (aa cF [i]) 0 none|none=>false) (some (aa cF [i],i)) S5)) L
def YJ(L:List Nat):Option Nat:=List.rec (motive:=fun _=>Option Nat) none (fun a r ih=>match r with|[]=>some a|_::_=>ih) L
theorem VW:∀L:List Nat,YJ L=L.getLast?
 |[]=>rfl
 |[a]=>rfl
 |a::b::L=>by
  have:=VW (b::L);rw[List.getLast?_cons_cons,←this];rfl
def Yz(E:aq)(n:Nat)(ops:List Oper)(L:List Nat)(es:Nat):Bool:=
 yk E ops L 0 none&&tQ (fun i _=>vM i L||(not (Nat.beq i es)&&bit (fN ops i) es)) ops 0&&tQ (fun i oi=>tQ (fun j oj=>DQ ops i oi j oj) ops 0) ops 0&&ey (fun o=>match o.dst with|some d=>Nat.blt d n|none=>true) ops&&
  (match YJ L with|some e=>Nat.beq e es|none=>false)
def HO(n:Nat)(fr:Fr)(x:Option (List Tr×AW)):aZ Fr:=
 match x with
 |some (tr,A')=>match PH n fr tr with|some cY=>some [(cY,A')]|none=>none
 |none=>none
def ua(E:aq)(sq:List (Nat×List xO))(call:cT→List xM→AW→aZ xM)(n:Nat)(ops:List Oper)(fr:Fr)(A:AW):aZ Fr:=
 bs (YA E n ops (JU E ops)) (HO n fr (GI E sq call ops (P' E sq) (JU E ops) [] fr A []))
  (match cT1 E ops (JU E ops) [] none with
  |some (L1,es)=>bs (Yz E n ops L1 es) (HO n fr (GI E sq call ops (J0 E sq ops) L1 [] fr A [])) none
  |none=>none)
def Pq(E:aq)(d:List Oper→Fr→AW→aZ Fr)(ops:List Oper)(fr:Fr)(A:AW):aZ Fr:=
 match A.tape with
 |[]=>d ops fr A
 |nd::r=>match nd.k,nd.args with
  | .own 2,[.int _ (.ofNat t)]=>(match ng E.G.n 4 (fr.get J t) (A.pop r) with
   |some (u,A1)=>d ops (fr.set t u) A1
   |none=>none)
  |_,_=>d ops fr A
section
variable{P:Program}{E:aq}(ok:E.Ok P){sq:List (Nat×List xO)}(ba:E.Seq P sq)
include ok ba
theorem W5{call:cT→List xM→AW→aZ xM}(hc:fG P E call)(n:Nat):vc P E n (ua E sq call n):=by
 intro ro w0 ops fr A bj β a w id h hf inv;have gX:∀k,¬(Array.replicate ops.length false).getD k false=true:=fun k=>by
  by_cases hk:k<ops.length
  ·simp[hk]
  ·simp[hk]
 have aT:(⟨ops⟩:Array Oper).size=ops.length:=rfl;have XF:∀k,bit 0 k=true↔∃x∈([]:List Tr),x.i=k:=fun k=>by
  rw[u9,Nat.zero_testBit];constructor
  ·intro e;cases e
  ·rintro⟨x,hx,_⟩;cases hx
 have at7:tO ops.length (Array.replicate ops.length false)≤ops.length:=by
  unfold tO;exact xH (List.length_filter_le _ _) (by simp)
 have hpj:PJ w0 E n ops (fr.get J) β A a.defers (fun k=>(Array.replicate ops.length false).getD k false=true) β A [] [] a {w with drawn:=w.drawn+1}:=
  ⟨fun j oj _ hj=>absurd hj (gX j),(fun x hx=>by cases hx),(fun x hx=>by cases hx),fun j hj=>absurd hj (gX j),hf,inv.drew _,(fun e he=>by cases he),(fun e he=>by cases he),af.cq _ _,xk _,rfl⟩
 have kM:∀(AM:ey (fun o:Oper=>match o.dst with|some d=>Nat.blt d n|none=>true) ops=true),∀o∈ops,∀d,o.dst=some d→d<n:=fun AM o ho d hd=>by
  have:=nI _ _ AM o ho;rw[hd] at this;exact xh this
 have fin:∀(res:List Tr×AW),HO n fr (some res)=some bj→∀ah a' w',cf ah n (gv (fun _=>True) res.1 (fr.get J)) a'.tmps→Inv w0 E.G ah res.2 w'→β.grow ah A.next→A.next≤res.2.next→a'.defers=a.defers→(Exit.normal= .normal∧qk w0 E.G n β A a.defers bj a' w'):=fun res ho ah a' w' g1 g2 g3 g4 g5=>by
  unfold HO at ho;simp only at ho;split at ho
  ·rename_i cY bR5;cases ho;refine⟨rfl,(cY,res.2),xn,ah,⟨g1.1,fun t=> ?_⟩,g2,g3,g4,g5⟩;rcases UY res.1 cY bR5 t with e|e
   ·show ai ah (cY.get J t) _;rw[e];exact g1.2 t
   ·show ai ah (cY.get J t) _;rw[e];exact .kL _
  ·cases ho
 have rK:∀x,HO n fr x=some bj→∃res,x=some res:=fun x hx=>by
  cases x with
  |none=>cases hx
  |some res=>exact⟨res,rfl⟩
 unfold ua at h;replace h:=au h;rcases h with⟨hp,h⟩|⟨_,h⟩
 ·unfold YA at hp;simp only [xf] at hp;obtain⟨⟨⟨⟨Ch,SM⟩,Ri⟩,AM⟩,_⟩:=hp;have hs:=VN Ri;obtain⟨res,H2⟩:=rK _ h;rw[H2] at h;have vQ:=Ol _ _ _ _ _ H2;refine wpIn_region_any ok.mixed ?_;rw[aT];refine VS (w0:=w0) (g0:=fr.get J) (β0:=β) (A0:=A) (ds:=a.defers) (fin:=P' E sq) (es:=0) ok ba hs (kM AM) hc _ res (fun _=>False) (fun _ h=>h.elim) (fun aS g A2 tr H9 hw hg jO eA eT=> ?_) (JU E ops) [] (fr.get J) A [] 0 none vQ Ch XF trivial rfl (fun e he=>by cases he) ⟨(fun e he=>by cases he),(fun e he=>by cases he),(fun e he=>by cases he)⟩ (fun k o hk=> .inr (.inl ?_)) (fun⟨_,h⟩=>h.elim) ops.length (Array.replicate ops.length false) β a _ (by simp) at7 hpj
  ·exact aQ5 ok ba hs (kM AM) H9 hw jO eA (fun k o hk=>(eT k o hk).resolve_right (fun h=>h)) _ (fin res h)
  ·have:=Dc _ ops 0 SM k o hk;rw[Nat.zero_add] at this;exact Gl this
 ·split at h
  ·rename_i L1 es av0;replace h:=au h;rcases h with⟨hp,h⟩|⟨_,h⟩
   ·unfold Yz at hp;simp only [xf] at hp;obtain⟨⟨⟨⟨Ch,SM⟩,Ri⟩,AM⟩,zT⟩:=hp;have hs:=VN Ri;have hl:L1.getLast?=some es:=by
     split at zT
     ·rename_i e he;rw[←VW,he,xb zT]
     ·cases zT
    obtain⟨res,H2⟩:=rK _ h;rw[H2] at h;have vQ:=Ol _ _ _ _ _ H2;refine wpIn_region_any ok.mixed ?_;rw[aT];refine VS (w0:=w0) (g0:=fr.get J) (β0:=β) (A0:=A) (ds:=a.defers) (fin:=J0 E sq ops) (es:=es) ok ba hs (kM AM) hc _ res (fun k=>k≠es∧bit (fN ops k) es=true) (fun _ h=>h) (fun aS g A2 tr H9 hw hg jO eA eT Em listed cK a2 w2 q1 q2 q3=> ?_) L1 [] (fr.get J) A [] 0 none vQ Ch XF trivial rfl (fun e he=>by cases he) ⟨(fun e he=>by cases he),(fun e he=>by cases he),(fun e he=>by cases he)⟩ (fun k o hk=> .inr ?_) (fun _=> .inr hl) ops.length (Array.replicate ops.length false) β a _ (by simp) at7 hpj
    ·exact aL9 ok ba (kM AM) H9 hg _ (fin res h) Em listed cK a2 w2 q1 q2 q3
    ·have:=Dc _ ops 0 SM k o hk;rw[Nat.zero_add,Bool.or_eq_true,xf,Bool.not_eq_true'] at this;rcases this with h1|⟨h1,h2⟩
     ·exact .inl (Gl h1)
     ·exact .inr ⟨fun e=>by rw[na,e] at h1;simp at h1,h2⟩
   ·cases h
  ·cases h
omit ba in
theorem aL6{n:Nat}{d:List Oper→Fr→AW→aZ Fr}(hd:vc P E n d):vc P E n (Pq E d):=by
 intro ro w0 ops fr A bj β a w id h hf inv;unfold Pq at h;split at h
 ·exact hd _ _ _ _ _ _ _ _ _ _ h hf inv
 ·rename_i nd r ht;split at h
  ·rename_i k t hk ha;split at h
   ·rename_i u A1 jz;have i1:=inv.pop (r:=r) (fun x hx=>by rw[ht];exact xo _ hx);obtain⟨aI,i2,g1,n1,f1⟩:=wH ok (w0:=w0) (w:=w) 4 _ _ u A1 β jz i1;have aK:=i1.fX g1;have bE:cf aI n ((fr.set t u).get J) a.tmps:=⟨hf.1,fun i=>by
     by_cases Nh:t=i
     ·subst Nh;rcases T.yU J fr t u with e|⟨e,_⟩
      ·rw[e];exact f1 aI (af.cq _ _) _ ((hf.2 t).mono aK)
      ·rw[e];exact .kL _
     ·rw[T.wc J fr t i u Nh];exact(hf.2 i).mono aK⟩
    have hn:A.next≤A1.next:=Nat.le_of_eq n1.symm;exact Code.wpIn_mono (fun e a' w' hh=>⟨hh.1,hh.2.mono g1 hn (fun c hc=>hc)⟩) (hd ro w0 ops _ A1 bj aI a w id h bE i2)
   ·cases h
  ·exact hd _ _ _ _ _ _ _ _ _ _ h hf inv
theorem Bf{dL:cT→List xM→AW→aZ xM}(vR:fG P E dL)(aN depth:Nat):fG P E (qS E sq (ua E sq) dL aN depth):=V' ok ba (fun _ n hc=>W5 ok ba hc n) vR aN depth
end
def YE(_:cT)(_:List xM)(_:AW):aZ xM:=none
theorem aW1(P:Program)(E:aq):fG P E YE:=fun _ _ _ _ _ _ _ _ h=>by cases h
def tj(a b:xM):Bool:=
 match a,b with
 | .func (.func f) ⟨p⟩ ⟨q⟩,.func (.func f') ⟨p'⟩ ⟨q'⟩=>Nat.beq f f'&&kK p p'&&kK q q'
 | .agg ⟨x⟩,.agg ⟨y⟩=>kK x y
 | .tuple ⟨x⟩,.tuple ⟨y⟩=>kK x y
 |a,b=>qT a b
theorem Kw{a b:xM}(h:tj a b=true):a=b:=by
 unfold tj at h;split at h
 ·simp only [xf] at h;rw[xb h.1.1,kV _ _ h.1.2,kV _ _ h.2]
 ·rw[kV _ _ h]
 ·rw[kV _ _ h]
 ·exact wm h
def Ie(a:List xM):List xM→Bool:=
 List.rec (motive:=fun _=>List xM→Bool) (fun b=>List.rec (motive:=fun _=>Bool) true (fun _ _ _=>false) b)
  (fun x _ ih b=>List.rec (motive:=fun _=>Bool) false (fun y t _=>bs (tj x y) (ih t) false) b) a
theorem J6:∀(a b:List xM),Ie a b=true→a=b
 |[],[],_=>rfl
 |[],_::_,h=>by cases h
 |_::_,[],h=>by cases h
 |x::a,y::b,h=>by
  have h':bs (tj x y) (Ie a b) false=true:=h;cases hc:tj x y with
  |false=>rw[hc] at h';cases h'
  |true=>rw[hc,eg] at h';rw[Kw hc,J6 a b h']
def S1(a b:xM):Bool:=
 match a,b with
 | .tuple ⟨x⟩,.tuple ⟨y⟩=>Ie x y
 |a,b=>tj a b
theorem bh0{a b:xM}(h:S1 a b=true):a=b:=by
 unfold S1 at h;split at h
 ·rw[J6 _ _ h]
 ·exact Kw h
def SY(a:List MapEntry):List MapEntry→Bool:=
 List.rec (motive:=fun _=>List MapEntry→Bool) (fun b=>List.rec (motive:=fun _=>Bool) true (fun _ _ _=>false) b)
  (fun x _ ih b=>List.rec (motive:=fun _=>Bool) false (fun y t _=>bs (Nat.beq x.born y.born&&tj x.key y.key&&tj x.val y.val) (ih t) false) b) a
theorem W4:∀(a b:List MapEntry),SY a b=true→a=b
 |[],[],_=>rfl
 |[],_::_,h=>by cases h
 |_::_,[],h=>by cases h
 |x::a,y::b,h=>by
  have h':bs (Nat.beq x.born y.born&&tj x.key y.key&&tj x.val y.val) (SY a b) false=true:=h;cases hc:(Nat.beq x.born y.born&&tj x.key y.key&&tj x.val y.val) with
  |false=>rw[hc] at h';cases h'
  |true=>
   rw[hc,eg] at h';simp only [xf] at hc;rw[W4 a b h'];obtain⟨k,v,bn⟩:=x;obtain⟨k',v',bn'⟩:=y;have h1:=xb hc.1.1;have h2:=Kw hc.1.2;have h3:=Kw hc.2;simp only at h1 h2 h3;rw[h1,h2,h3]
def pP(a b:Bool):Bool:=bs a b (not b)
theorem uY{a b:Bool}(h:pP a b=true):a=b:=by cases a<;>cases b<;>first|rfl|cases h
def RX(a:List Nat):List Nat→Bool:=
 List.rec (motive:=fun _=>List Nat→Bool) (fun b=>List.rec (motive:=fun _=>Bool) true (fun _ _ _=>false) b)
  (fun x _ ih b=>List.rec (motive:=fun _=>Bool) false (fun y t _=>bs (Nat.beq x y) (ih t) false) b) a
theorem WL:∀(a b:List Nat),RX a b=true→a=b
 |[],[],_=>rfl
 |[],_::_,h=>by cases h
 |_::_,[],h=>by cases h
 |x::a,y::b,h=>by
  have h':bs (Nat.beq x y) (RX a b) false=true:=h;rcases au h' with⟨h1,h2⟩|⟨_,h2⟩
  ·rw[xb h1,WL a b h2]
  ·cases h2
def RU(a b:Option Nat):Bool:=match a,b with|none,none=>true|some x,some y=>Nat.beq x y|_,_=>false
theorem be1{a b:Option Nat}(h:RU a b=true):a=b:=by
 unfold RU at h;split at h
 ·rfl
 ·rw[xb h]
 ·cases h
def S3(a b:ao):Bool:=
 match a,b with
 |⟨.cells x,e,ex,ro,ty⟩,⟨.cells y,e',gM,gK,gJ⟩=>Ie x y&&Nat.beq e e'&&pP ex gM&&pP ro gK&&Nat.beq ty gJ
 |⟨.map x c,e,ex,ro,ty⟩,⟨.map y c',e',gM,gK,gJ⟩=>SY x y&&Nat.beq c c'&&Nat.beq e e'&&pP ex gM&&pP ro gK&&Nat.beq ty gJ
 |⟨.iter m s l st,e,ex,ro,ty⟩,⟨.iter m' s' l' st',e',gM,gK,gJ⟩=>RU m m'&&Nat.beq s s'&&RX l l'&&Nat.beq st st'&&Nat.beq e e'&&pP ex gM&&pP ro gK&&Nat.beq ty gJ
 |_,_=>false
theorem bh4{a b:ao}(h:S3 a b=true):a=b:=by
 unfold S3 at h;split at h
 ·simp only [xf] at h;rw[J6 _ _ h.1.1.1.1,xb h.1.1.1.2,uY h.1.1.2,uY h.1.2,xb h.2]
 ·simp only [xf] at h;rw[W4 _ _ h.1.1.1.1.1,xb h.1.1.1.1.2,xb h.1.1.1.2,uY h.1.1.2,uY h.1.2,xb h.2]
 ·simp only [xf] at h;obtain⟨⟨⟨⟨⟨⟨⟨h1,h2⟩,h3⟩,h4⟩,h5⟩,h6⟩,h7⟩,h8⟩:=h;rw[be1 h1,xb h2,WL _ _ h3,xb h4,xb h5,uY h6,uY h7,xb h8]
 ·cases h
def B3(a b:Option ao):Bool:=match a,b with|some x,some y=>S3 x y|none,none=>true|_,_=>false
theorem WK{a b:Option ao}(h:B3 a b=true):a=b:=by
 unfold B3 at h;split at h
 ·rw[bh4 h]
 ·rfl
 ·cases h
def Io(a:T (Option ao)):T (Option ao)→Bool:=
 T.rec (motive:=fun _=>T (Option ao)→Bool) (fun b=>T.rec (motive:=fun _=>Bool) true (fun _ _ _ _ _=>false) b)
  (fun _ v _ tl tr b=>T.rec (motive:=fun _=>Bool) false (fun l' v' r' _ _=>bs (B3 v v') (bs (tl l') (tr r') false) false) b) a
theorem PI:∀(a b:T (Option ao)),Io a b=true→a=b
 | .nil,.nil,_=>rfl
 | .nil,.node ..,h=>by cases h
 | .node ..,.nil,h=>by cases h
 | .node l v r,.node l' v' r',h=>by
  have h':bs (B3 v v') (bs (Io l l') (Io r r') false) false=true:=h;cases h1:B3 v v' with
  |false=>rw[h1] at h';cases h'
  |true=>
   rw[h1,eg] at h';cases h2:Io l l' with
   |false=>rw[h2] at h';cases h'
   |true=>
    rw[h2,eg] at h';rw[WK h1,PI l l' h2,PI r r' h']
def NN(a b:AW):Bool:=match a,b with|⟨h1,n1,[]⟩,⟨h2,n2,[]⟩=>Nat.beq n1 n2&&Io h1 h2|_,_=>false
theorem XT{a b:AW}(h:NN a b=true):a=b:=by
 unfold NN at h;split at h
 ·rw[xf] at h;rw[xb h.1,PI _ _ h.2]
 ·cases h
def fill(k:Nat):List (Option ao)→T (Option ao):=
 Nat.rec (motive:=fun _=>List (Option ao)→T (Option ao)) (fun _=> .nil) (fun _ ih l=>List.rec (motive:=fun _=>T (Option ao)) (.node (ih []) none (ih [])) (fun a r _=> .node (ih (alt r true)) a (ih (alt r false))) l) k
def fA(k:Nat)(l:List (Option ao)):AW:=⟨fill k l,bI l,[]⟩
structure dP where
 f:Nat
 args:List xM
 A:AW
 v:xM
 A':AW
def dP.dL(r:dP)(t:cT)(args:List xM)(A:AW):aZ xM:=
 match t with
 | .fn f=>bs (Nat.beq f r.f) (bs (Ie args r.args) (bs (NN A r.A) (some [(r.v,r.A')]) none) none) none
 | .rd _=>none
 | .dy _=>none
def dP.rH(r:dP)(call:cT→List xM→AW→aZ xM):Bool:=
 match call (.fn r.f) r.args r.A with
 |some [(v,A)]=>S1 v r.v&&NN A r.A'
 |_=>false
theorem dP.ok{r:dP}{P:Program}{E:aq}{call:cT→List xM→AW→aZ xM}(hc:fG P E call)(h:r.rH call=true):fG P E r.dL:=by
 intro w0 t args A bj β w args' ho inv iR;have key:call t args A=some bj:=by
  unfold dP.dL at ho;split at ho
  ·rename_i f;replace ho:=au ho;rcases ho with⟨e1,ho⟩|⟨_,ho⟩
   ·replace ho:=au ho;rcases ho with⟨e2,ho⟩|⟨_,ho⟩
    ·replace ho:=au ho;rcases ho with⟨e3,ho⟩|⟨_,ho⟩
     ·cases ho;rw[xb e1,J6 _ _ e2,XT e3];unfold dP.rH at h;split at h
      ·rename_i v A1 mi;rw[xf] at h;rw[mi,bh0 h.1,XT h.2]
      ·cases h
     ·cases ho
    ·cases ho
   ·cases ho
  ·cases ho
  ·cases ho
 exact hc w0 t args A bj β w args' key inv iR
def eF(a b:cT→List xM→AW→aZ xM)(t:cT)(args:List xM)(A:AW):aZ xM:=match a t args A with|some o=>some o|none=>b t args A
theorem eL{P:Program}{E:aq}{a b:cT→List xM→AW→aZ xM}(ha:fG P E a)(hb:fG P E b):fG P E (eF a b):=by
 intro w0 t args A bj β w args' ho inv iR;unfold eF at ho;split at ho
 ·rename_i o hq;cases ho;exact ha w0 t args A bj β w args' hq inv iR
 ·exact hb w0 t args A bj β w args' ho inv iR
theorem JC:∀(t:T (Option (Option Row))) (i:Nat) (r:Row),(join t).get none i=some r→t.get none i=some (some r)
 | .nil,i,r,h=>by cases h
 | .node l v q,i,r,h=>by
  have iV:∀x:Option Row,(T.node (join l) x (join q)).get none i=some r→(i=0∧x=some r)∨(i≠0∧(T.node l v q).get none i=some (some r)):=fun x hx=>by
   rw[T.jT] at hx;rw[T.jT];split at hx
   ·rename_i h0;exact .inl ⟨h0,hx⟩
   ·rename_i h0;refine .inr ⟨h0,?_⟩;rw[if_neg h0];split at hx
    ·rename_i h1;rw[if_pos h1];exact JC l _ r hx
    ·rename_i h1;rw[if_neg h1];exact JC q _ r hx
  cases v with
  |none=>
   rcases iV none h with⟨_,h2⟩|⟨_,h2⟩
   ·cases h2
   ·exact h2
  |some x=>
   rcases iV x h with⟨h1,h2⟩|⟨_,h2⟩
   ·rw[T.jT,if_pos h1,h2]
   ·exact h2
variable{P:Program}
theorem WX{t:xN}{i:TypeInfo}(h:P.types.toList[t]? =some i):P.info? t=some i:=by
 rw[Array.getElem?_toList] at h;have hl:=(Array.getElem?_eq_some_iff.1 h).1;show P.toTables.info? t=some i;unfold Tables.info?;rw[if_pos hl];exact h
theorem Xo{t:xN}{r:Row}{k:Nat}(h:(join (Av k (ew (KK P.types.toList) P.types.toList))).get none t=some r):
 ∃i d,P.info? t=some i∧RI P.types.toList i.desc=some d∧r=⟨d,i.size,i.bytes,(EB d i.zero).1,(EB d i.zero).2⟩∧P.underlying t=some d:=by
 have h1:=Gi _ _ _ _ (JC _ _ _ h);rw[l8,xx] at h1;obtain⟨i,hi,hr⟩:=xp.1 h1;unfold KK at hr;split at hr
 ·rename_i d hd;cases hr;have ZT:=WX hi;refine⟨i,d,ZT,hd,rfl,?_⟩;unfold Program.underlying;rw[ZT];unfold RI at hd;obtain⟨ds,_⟩:=i;cases ds with
  |named nm u=>
   simp only [eM] at hd;split at hd
   ·rename_i j hj;cases hd;simp only [WX hj,Option.map_some]
   ·cases hd
  |_=>cases hd;rfl
 ·cases hr
theorem VV{G:GP}{ne:List Nat}{lay:List (Nat×Nat×Nat)}{ib:List Nat}{mz:List (Nat×Nat)}(hm:P.follows .mixedOrders=true)(hn:∀fn∈P.funcs.toList,(fn.name== "runtime.NumGoroutine")=false)
 (bA:∀f,f∈ne→∀(x:xM) (w:World),(callFunc f #[x]).run P w= .ok (.value x) w)
 (hl:∀e u o,(e,u,o)∈lay→liesAt P P.depth e 1 o u 1=true) (ha:Nat.ble P.types.toList.length iY=true) (hq:∀δ nd,G.Q δ nd→dt δ nd) (hlx:∀w w':World,G.L w→(∀b,b<G.n→w'.heap[b]? =w.heap[b]?)→G.L w')
 (Nq:∀f,f∈ib→∀(args:Array xM) (w:World),(callFunc f args).run P w=(do pure (.value (←Extern.BytealgIndexByte.indexByte args)):Sem Next).run P w) (IE:∀f t,(f,t)∈mz→∃ps,∀(args:Array xM) (w:World),(callFunc f args).run P w=(do pure (.value (←Extern.BytealgMakeNoZero.makeNoZero ps #[t] args)):Sem Next).run P w:=by intro f t h;cases h):(QD P G ne lay ib mz).Ok P:=by
 refine⟨hm,fun t r h=> ?_,fun f fn h=> ?_,fun t r i z h hi hz hiz=> ?_,bA,Nq,IE,hl,fun r h=> ?_,hq,hlx⟩
 ·obtain⟨i,d,h1,h2,rfl,h4⟩:=Xo h;refine⟨h4,i,h1,rfl,rfl,fun hz=> ?_⟩;simp only at hz⊢;unfold EB at hz⊢;split at hz
  ·rename_i l yz;refine⟨_,yz,?_⟩;cases hd:m5 d with
   |true=>rfl
   |false=>rw[hd] at hz;cases hz
  ·cases hz
  ·rename_i v ga TY yz;refine⟨_,yz,?_⟩;cases hd:m5 d with
   |true=>rw[hd] at hz;cases hz
   |false=>cases v<;>first|rfl|(exfalso;exact ga _ rfl)|(exfalso;exact TY _ rfl)
  ·cases hz
 ·have h1:=Gi _ _ _ _ (show(Av 10 P.funcs.toList).get none f=some fn from h);exact⟨by rw[Array.getElem?_toList] at h1;exact h1,hn fn (xu h1)⟩
 ·obtain⟨i2,d,h1,h2,rfl,h4⟩:=Xo h;rw[hi] at h1;cases h1;simp only at hz⊢;rw[hiz] at hz⊢;unfold EB at hz⊢;split at hz
  ·rename_i l yz;cases yz;cases d<;>first|(cases hz;done)|exact⟨rfl,fun e=>by cases e⟩
  ·cases hz
  ·rename_i v ga TY yz;cases yz;cases d<;>first|(cases hz;done)|(cases z<;>first|exact⟨rfl,fun _=>⟨_,rfl⟩⟩|(exfalso;exact ga _ rfl)|(exfalso;exact TY _ rfl))
  ·cases hz
 ·have h1:=Gi _ _ _ _ (JC _ _ _ (show(join (Av 11 (ew (KK P.types.toList) P.types.toList))).get none iY=some r from h));have h2:=(xe.1 h1).1;rw[l8,xm] at h2;have:=xh ha;omega
open Go.RowKit Go.WideShapes
section
variable{P:Program}
def DI(P:Program)(g:xN→Option (List xO)):Nat→List Field→Option (List xO)
 |_,[]=>some []
 |o,f::fs=>if f.offset=o∧(f.name== "_")=false then
  (match g f.type with
  |some ks=>if ks.length=P.cellsOf f.type then(match DI P g (o+ks.length) fs with|some r=>some (ks++r)|none=>none) else none
  |none=>none)
  else none
def oO(P:Program):Nat→xN→Option (List xO)
 |0,_=>none
 |m+1,t=>
  match P.underlying t with
  |some (.int k)=>some [k]
  |some (.struct fs)=>if P.stoodInHeld t=false then DI P (oO P m) 0 fs.toList else none
  |some (.array n e)=>(match oO P m e with
   |some ks=>if ks.length=P.cellsOf e then some (List.replicate n ks).flatten else none
   |none=>none)
  |_=>none
def CV(P:Program)(t:xN)(a:List xM)(x:xM):Prop:=
 (∃k,P.underlying t=some (.int k)∧a=[x])∨(((∃fs,P.underlying t=some (.struct fs))∨∃n e,P.underlying t=some (.array n e))∧x= .agg ⟨a⟩)
theorem JB:∀(eG n9:List xO) (a b:List xM) (r:Bool),gW (eG++n9) a b=some r→
 ∃r1 r2,gW eG (a.take eG.length) (b.take eG.length)=some r1∧gW n9 (a.drop eG.length) (b.drop eG.length)=some r2∧r=(r1&&r2)
 |[],n9,a,b,r,h=>⟨true,r,rfl,h,by simp⟩
 |k::eG,n9,a,b,r,h=>by
  have h':nS k (gW (eG++n9)) a b=some r:=h;clear h;unfold nS at h';split at h'
  ·rename_i j m a j' n b;replace h':=au h';rcases h' with⟨hk,h'⟩|⟨_,h'⟩
   ·split at h'
    ·rename_i r' dY;obtain⟨r1,r2,h1,h2,rfl⟩:=JB eG n9 a b r' dY;cases h';refine⟨bs (mQ m n) r1 false,r2,?_,h2,?_⟩
     ·show nS k (gW eG) (.int j m::a.take eG.length) (.int j' n::b.take eG.length)=_;simp only [nS,hk,eg,h1]
     ·cases mQ m n
      ·rw[gN,gN];rfl
      ·rw[eg,eg]
    ·cases h'
   ·cases h'
  ·cases h'
theorem Gd:∀(ks:List xO) (a b:List xM) (r:Bool),gW ks a b=some r→a.length=ks.length∧b.length=ks.length
 |[],a,b,r,h=>by
  have h':pJ a b=some r:=h;unfold pJ at h';split at h'
  ·exact⟨rfl,rfl⟩
  ·cases h'
 |k::ks,a,b,r,h=>by
  have h':nS k (gW ks) a b=some r:=h;clear h;unfold nS at h';split at h'
  ·rename_i j m a j' n b;replace h':=au h';rcases h' with⟨hk,h'⟩|⟨_,h'⟩
   ·split at h'
    ·rename_i r' dY;obtain⟨h1,h2⟩:=Gd ks a b r' dY;exact⟨by simp[h1],by simp[h2]⟩
    ·cases h'
   ·cases h'
  ·cases h'
theorem aW8{k:xO}{a b:List xM}{r:Bool}(h:gW [k] a b=some r):∃m n,a=[.int k m]∧b=[.int k n]∧r=decide (m=n):=by
 have h':nS k pJ a b=some r:=h;clear h;unfold nS at h';split at h'
 ·rename_i j m a j' n b;replace h':=au h';rcases h' with⟨hk,h'⟩|⟨_,h'⟩
  ·rw[xf] at hk;split at h'
   ·rename_i r' dY;unfold pJ at dY;split at dY
    ·cases dY;cases h';refine⟨m,n,by rw[qH hk.1],by rw[qH hk.2],?_⟩;rw[←pu];cases mQ m n<;>rfl
    ·cases dY
   ·cases h'
  ·cases h'
 ·cases h'
theorem Vv:∀(eG n9:List xO) (a:List xM),gW (eG++n9) a a=some true→gW eG (a.take eG.length) (a.take eG.length)=some true∧gW n9 (a.drop eG.length) (a.drop eG.length)=some true:=by
 intro eG n9 a h;obtain⟨r1,r2,h1,h2,h3⟩:=JB eG n9 a a true h;cases r1<;>cases r2<;>first|exact⟨h1,h2⟩|cases h3
theorem Ot{m:Nat}{e:xN}{ks:List xO}(hk:oO P m e=some ks):∃d i,P.underlying e=some d∧P.info? e=some i:=by
 cases m with
 |zero=>cases hk
 |succ m=>
  unfold oO at hk;cases hu:P.underlying e with
  |none=>simp[hu] at hk
  |some d=>
   obtain⟨i,hi⟩:=info_of_underlying hu;exact⟨d,i,rfl,hi⟩
theorem F8(w:World){m:Nat}{e:xN}{ks:List xO}(hk:oO P m e=some ks)(hl:ks.length=P.cellsOf e)(xs:Array xM)(off:Nat)(aC:off+ks.length≤xs.size):
 ∃x,(part e xs off).run P w= .ok x w∧CV P e ((xs.toList.drop off).take ks.length) x:=by
 obtain⟨d,i,hu,hi⟩:=Ot hk;have hx:(xs.extract off (off+P.cellsOf e)).toList=(xs.toList.drop off).take (P.cellsOf e):=by
  rw[Array.toList_extract];simp[List.extract]
 have oa:(⟨(xs.toList.drop off).take ks.length⟩:Array xM)=xs.extract off (off+P.cellsOf e):=by
  rw[hl,←hx]
 cases m with
 |zero=>cases hk
 |succ m=>
  unfold oO at hk;rw[hu] at hk;cases d with
  |int k=>
   cases hk;have hs:off<xs.size:=by simp only [List.length_singleton] at aC;omega
   refine⟨xs[off],run_part_plain w (by simp[Program.plainKey,hu]) (by simp[hs]),.inl ⟨k,hu,?_⟩⟩;rw[List.length_singleton,List.drop_eq_getElem_cons (by simpa using hs)];simp
  |struct fs=>
   refine⟨.agg (xs.extract off (off+P.cellsOf e)),by simp[part,isAgg,run_underlying hu,run_sizeOf w hi],.inr ⟨.inl ⟨_,hu⟩,by rw[oa]⟩⟩
  |array n e'=>
   refine⟨.agg (xs.extract off (off+P.cellsOf e)),by simp[part,isAgg,run_underlying hu,run_sizeOf w hi],.inr ⟨.inr ⟨_,_,hu⟩,by rw[oa]⟩⟩
  |_=>cases hk
def Qm(P:Program)(dd:Nat)(t:xN)(ks:List xO):Prop:=
 ∀w x y a b r,CV P t a x→CV P t b y→gW ks a b=some r→(Op.equalIn dd t x y).run P w= .ok r w
def bi4(P:Program)(em:Bool)(dd:Nat)(t:xN)(ks:List xO):Prop:=
 ∀w x a,CV P t a x→gW ks a a=some true→(Instr.checkKey em dd t x).run P w= .ok () w
theorem UD{m dd:Nat}(IH:∀t ks,oO P m t=some ks→Qm P dd t ks)(w:World)(xs ys:Array xM):∀(fs:List Field) (o:Nat) (ks:List xO) (r:Bool),DI P (oO P m) o fs=some ks→
 o≤xs.size→o≤ys.size→gW ks (xs.toList.drop o) (ys.toList.drop o)=some r→(Op.eqFields dd xs ys fs).run P w= .ok r w
 |[],o,ks,r,hf,hx,hy,hr=>by
  cases hf;have h':pJ (xs.toList.drop o) (ys.toList.drop o)=some r:=hr;unfold pJ at h';split at h'
  ·cases h';simp[Op.eqFields]
  ·cases h'
 |f::fs,o,ks,r,hf,hx,hy,hr=>by
  unfold DI at hf;split at hf
  ·rename_i hc;split at hf
   ·rename_i eG eP;split at hf
    ·rename_i hl;split at hf
     ·rename_i n9 jP;cases hf;obtain⟨r1,r2,h1,h2,rfl⟩:=JB eG n9 _ _ r hr;obtain⟨l1,l2⟩:=Gd _ _ _ _ h1;simp only [xz,List.length_drop,Array.length_toList] at l1 l2;have ox:o+eG.length≤xs.size:=by omega
      have oy:o+eG.length≤ys.size:=by omega
      obtain⟨x,px,vx⟩:=F8 w eP hl xs o ox;obtain⟨y,py,vy⟩:=F8 w eP hl ys o oy;have e1:=IH _ _ eP w x y _ _ r1 vx vy h1;have hn:f.name≠ "_":=fun e=>by rw[e] at hc;exact absurd hc.2 (by simp)
      rw[List.drop_drop,List.drop_drop] at h2;have e2:=UD IH w xs ys fs (o+eG.length) n9 r2 jP ox oy h2;rw[←hc.1] at px py;simp only [Op.eqFields,hn,ne_eq,not_false_eq_true,if_true,Sem.run_bind,px,py,e1,Result.andThen_ok];cases r1
      ·simp
      ·simpa using e2
     ·cases hf
    ·cases hf
   ·cases hf
  ·cases hf
theorem UL{m dd:Nat}{e:xN}{ks:List xO}(hk:oO P m e=some ks)(hl:ks.length=P.cellsOf e)(IH:Qm P dd e ks)(w:World)(xs ys:Array xM):∀(n s:Nat) (r:Bool),
 gW (List.replicate n ks).flatten (xs.toList.drop (s*ks.length)) (ys.toList.drop (s*ks.length))=some r→(Op.eqItems dd e (P.cellsOf e) xs ys (List.range' s n)).run P w= .ok r w
 |0,s,r,hr=>by
  have h':pJ (xs.toList.drop (s*ks.length)) (ys.toList.drop (s*ks.length))=some r:=hr;unfold pJ at h';split at h'
  ·cases h';simp[Op.eqItems]
  ·cases h'
 |n+1,s,r,hr=>by
  rw[List.replicate_succ,List.flatten_cons] at hr;obtain⟨r1,r2,h1,h2,rfl⟩:=JB ks _ _ _ r hr;obtain⟨l1,l2⟩:=Gd _ _ _ _ h1;simp only [xz,List.length_drop,Array.length_toList] at l1 l2;have uz:∀zs:Array xM,min ks.length (zs.size - s*ks.length)=ks.length→∃z,(part e zs (s*P.cellsOf e)).run P w= .ok z w∧CV P e ((zs.toList.drop (s*ks.length)).take ks.length) z:=fun zs hz=>by
   by_cases h0:s*ks.length+ks.length≤zs.size
   ·have:=F8 w hk hl zs (s*ks.length) h0;rw[←hl];exact this
   ·have jQ:ks.length=0:=by omega
    exfalso;have:ks=[]:=xE.1 jQ;subst this;simp at h0
  obtain⟨x,px,vx⟩:=uz xs l1;obtain⟨y,py,vy⟩:=uz ys l2;have e1:=IH w x y _ _ r1 vx vy h1;rw[List.drop_drop,List.drop_drop,←Nat.succ_mul] at h2;have e2:=UL hk hl IH w xs ys n (s+1) r2 h2;simp only [List.range'_succ,Op.eqItems,Sem.run_bind,px,py,e1,Result.andThen_ok];cases r1
  ·simp
  ·simpa using e2
theorem Pu(d:Nat):∀(m:Nat) (t:xN) (ks:List xO),oO P m t=some ks→Qm P (d+m) t ks
 |0,_,_,h=>by cases h
 |m+1,t,ks,hk=>by
  intro w x y a b r vx vy hr;unfold oO at hk;cases hu:P.underlying t with
  |none=>simp[hu] at hk
  |some kd=>
   rw[hu] at hk;have agg:(∀k,kd≠ .int k)→x= .agg ⟨a⟩∧y= .agg ⟨b⟩:=fun bA=>by
    have one:∀z c,CV P t c z→z= .agg ⟨c⟩:=fun z c hv=>by
     rcases hv with⟨k,h1,_⟩|⟨_,h⟩
     ·rw[hu] at h1;cases h1;exact absurd rfl (bA k)
     ·exact h
    exact⟨one x a vx,one y b vy⟩
   cases kd with
   |int k=>
    cases hk;obtain⟨m1,n1,rfl,rfl,rfl⟩:=aW8 hr;have one:∀z n,CV P t [.int k n] z→z= .int k n:=fun z n hv=>by
     rcases hv with⟨_,_,h2⟩|⟨h|h,_⟩
     ·simpa using h2.symm
     ·obtain⟨_,h⟩:=h;rw[hu] at h;cases h
     ·obtain⟨_,_,h⟩:=h;rw[hu] at h;cases h
    rw[one x m1 vx,one y n1 vy,show d+(m+1)=(d+m)+1 from rfl,run_equalIn_int w (d+m) t k k m1 n1 hu]
    congr 1
   |struct fs=>
    obtain⟨rfl,rfl⟩:=agg (fun k e=>by cases e);simp only at hk;split at hk
    ·rename_i hs;have hfs:P.fieldsOf t=fs:=by simp[Program.fieldsOf,hu]
     rw[show d+(m+1)=(d+m)+1 from rfl,run_equalIn_struct w (d+m) t _ _ (by rw[hfs];exact hu) hs,hfs];exact UD (fun t ks h=>Pu d m t ks h) w ⟨a⟩ ⟨b⟩ fs.toList 0 ks r hk (xL _) (xL _) hr
    ·cases hk
   |array n e=>
    obtain⟨rfl,rfl⟩:=agg (fun k e=>by cases e);simp only at hk;split at hk
    ·rename_i eG eP;split at hk
     ·rename_i hl;cases hk;obtain⟨_,i,_,hi⟩:=Ot eP;rw[show d+(m+1)=(d+m)+1 from rfl,run_equalIn_array w (d+m) ⟨a⟩ ⟨b⟩ hu hi,List.range_eq_range'];exact UL eP hl (Pu d m e eG eP) w ⟨a⟩ ⟨b⟩ n 0 r (by simpa using hr)
     ·cases hk
    ·cases hk
   |_=>cases hk
theorem OL(em:Bool)(d:Nat):∀(m:Nat) (t:xN) (ks:List xO),oO P m t=some ks→bi4 P em (d+m) t ks
 |0,_,_,h=>by cases h
 |m+1,t,ks,hk=>by
  intro w x a vx hr;unfold oO at hk;cases hu:P.underlying t with
  |none=>simp[hu] at hk
  |some kd=>
   rw[hu] at hk;have agg:(∀k,kd≠ .int k)→x= .agg ⟨a⟩:=fun bA=>by
    rcases vx with⟨k,h1,_⟩|⟨_,h⟩
    ·rw[hu] at h1;cases h1;exact absurd rfl (bA k)
    ·exact h
   cases kd with
   |int k=>
    rw[show d+(m+1)=(d+m)+1 from rfl,Instr.checkKey];simp only [Sem.run_bind,run_underlying hu,Result.andThen_ok];rfl
   |struct fs=>
    obtain rfl:=agg (fun k e=>by cases e);simp only at hk;split at hk
    ·rw[show d+(m+1)=(d+m)+1 from rfl,Instr.checkKey];simp only [Sem.run_bind,run_underlying hu,Result.andThen_ok];rw[←Array.forIn_toList];have go:∀(L:List Field) (o:Nat) (ks:List xO),DI P (oO P m) o L=some ks→o≤a.length→gW ks (a.drop o) (a.drop o)=some true→
      (forIn L PUnit.unit fun f (_:PUnit)=>(if f.name≠ "_" then(do
       let y←part f.type ⟨a⟩ f.offset
       Instr.checkKey em (d+m) f.type y
       pure (ForInStep.yield PUnit.unit)) else pure (ForInStep.yield PUnit.unit):Sem (ForInStep PUnit))).run P w= .ok PUnit.unit w:=by
      intro L
      induction L with
      |nil=>intro o ks _ _ _;simp
      |cons f L ih=>
       intro o ks hf ho hr;unfold DI at hf;split at hf
       ·rename_i hc;split at hf
        ·rename_i eG eP;split at hf
         ·rename_i hl;split at hf
          ·rename_i n9 jP;cases hf;obtain⟨h1,h2⟩:=Vv eG n9 _ hr;obtain⟨l1,_⟩:=Gd _ _ _ _ h1;simp only [xz,List.length_drop] at l1;have ox:o+eG.length≤a.length:=by omega
           obtain⟨y,py,vy⟩:=F8 w eP hl ⟨a⟩ o (by simpa using ox);have e1:=OL em d m _ _ eP w y _ vy h1;have hn:f.name≠ "_":=fun e=>by rw[e] at hc;exact absurd hc.2 (by simp)
           rw[List.drop_drop] at h2;have e2:=ih (o+eG.length) n9 jP ox h2;rw[←hc.1] at py;simp only [List.forIn_cons,Sem.run_bind,hn,ne_eq,not_false_eq_true,if_true,Result.andThen_ok,py,e1,Sem.run_pure];exact e2
          ·cases hf
         ·cases hf
        ·cases hf
       ·cases hf
     rw[go fs.toList 0 ks hk (xL _) hr];rfl
    ·cases hk
   |array n e=>
    obtain rfl:=agg (fun k e=>by cases e);simp only at hk;split at hk
    ·rename_i eG eP;split at hk
     ·rename_i hl;cases hk;obtain⟨_,i,_,hi⟩:=Ot eP;rw[show d+(m+1)=(d+m)+1 from rfl,Instr.checkKey];simp only [Sem.run_bind,run_underlying hu,Result.andThen_ok];simp only [Std.Legacy.Range.forIn_eq_forIn_range',Std.Legacy.Range.size,Nat.sub_zero,Nat.add_one_sub_one,Nat.div_one];have go:∀(n s:Nat),gW (List.replicate n eG).flatten (a.drop (s*eG.length)) (a.drop (s*eG.length))=some true→
       (forIn (List.range' s n) PUnit.unit fun i (_:PUnit)=>(do
        Instr.checkKey em (d+m) e (←part e ⟨a⟩ (i*(←sizeOf e)))
        pure (ForInStep.yield PUnit.unit):Sem (ForInStep PUnit))).run P w= .ok PUnit.unit w:=by
       intro n
       induction n with
       |zero=>intro s _;simp
       |succ n ih=>
        intro s hr;rw[List.replicate_succ,List.flatten_cons] at hr;obtain⟨h1,h2⟩:=Vv eG _ _ hr;obtain⟨l1,_⟩:=Gd _ _ _ _ h1;simp only [xz,List.length_drop] at l1;have ox:s*eG.length+eG.length≤a.length:=by
         rcases xI eG.length with h0|h0
         ·rw[h0];simp
         ·omega
        obtain⟨y,py,vy⟩:=F8 w eP hl ⟨a⟩ (s*eG.length) (by simpa using ox);have e1:=OL em d m _ _ eP w y _ vy h1;rw[List.drop_drop,←Nat.succ_mul] at h2;have e2:=ih (s+1) h2;rw[hl] at py;simp only [List.range'_succ,List.forIn_cons,Sem.run_bind,run_sizeOf w hi,Result.andThen_ok,py,e1,Sem.run_pure];exact e2
      rw[go n 0 (by simpa using hr)];rfl
     ·cases hk
    ·cases hk
   |_=>cases hk
def LV:List xO→List xO→Bool
 |[],[]=>true
 |a::l,b::r=>dE a b&&LV l r
 |_,_=>false
theorem WT:∀a b,LV a b=true→a=b
 |[],[],_=>rfl
 |[],_::_,h=>by cases h
 |_::_,[],h=>by cases h
 |a::l,b::r,h=>by
  unfold LV at h;rw[xf] at h;rw[qH h.1,WT l r h.2]
def am2(P:Program)(p:Nat×List xO):Bool:=
 (match oO P 4 p.1 with|some ks=>LV ks p.2|none=>false)&&not (P.eqGuardType P.depth p.1)&&
  (match P.underlying p.1 with|some (.struct _)=>true|some (.array _ _)=>true|_=>false)
theorem Xl{E:aq}{sq:List (Nat×List xO)}(h:ey (am2 P) sq=true):E.Seq P sq:=by
 have mem:∀(l:List (Nat×List xO)) t ks,rP l t=some ks→(t,ks)∈l:=by
  intro l
  induction l with
  |nil=>intro t ks e;cases e
  |cons p l ih=>
   intro t ks e;have e':bs (Nat.beq p.1 t) (some p.2) (rP l t)=some ks:=e;rcases au e' with⟨h1,h2⟩|⟨_,h2⟩
   ·obtain⟨u,v⟩:=p;have:=xb h1;simp only at this h2;cases h2;rw[this];exact xn
   ·exact xo _ (ih t ks h2)
 have Mp:∀t ks,rP sq t=some ks→oO P 4 t=some ks∧P.eqGuardType P.depth t=false∧((∃fs,P.underlying t=some (.struct fs))∨∃n e,P.underlying t=some (.array n e)):=fun t ks e=>by
  have h1:=nI _ _ h _ (mem sq t ks e);unfold am2 at h1;simp only [xf,Bool.not_eq_true'] at h1;obtain⟨⟨h2,h3⟩,h4⟩:=h1;refine⟨?_,h3,?_⟩
  ·split at h2
   ·rename_i ks' hk;rw[hk,WT _ _ h2]
   ·cases h2
  ·split at h4
   ·exact .inl ⟨_,by assumption⟩
   ·exact .inr ⟨_,_,by assumption⟩
   ·cases h4
 refine⟨fun t ks a b r e hr w=> ?_,fun t ks e=>(Mp t ks e).2.1,fun t ks e=> ?_,fun t ks a e hr em w=> ?_⟩
 ·obtain⟨h1,_,h3⟩:=Mp t ks e;exact Pu 9996 4 t ks h1 w _ _ a b r (.inr ⟨h3,rfl⟩) (.inr ⟨h3,rfl⟩) hr
 ·rcases(Mp t ks e).2.2 with⟨_,h⟩|⟨_,_,h⟩
  ·exact⟨_,h⟩
  ·exact⟨_,h⟩
 ·obtain⟨h1,_,h3⟩:=Mp t ks e;exact OL em 9996 4 t ks h1 w _ a (.inr ⟨h3,rfl⟩) hr
end
open Go.RowKit
section
variable{P:Program}
def GV(P:Program)(g:xN→DataW Unit→Option (List xM)):Nat→List Field→List (DataW Unit)→Option (List xM)
 |_,[],[]=>some []
 |o,f::fs,d::ds=>if f.offset=o then
  (match g f.type d with
  |some l=>if l.length=P.cellsOf f.type then(match GV P g (o+l.length) fs ds with|some r=>some (l++r)|none=>none) else none
  |none=>none)
  else none
 |_,_,_=>none
def GW(g:DataW Unit→Option (List xM))(c:Nat):List (DataW Unit)→Option (List xM)
 |[]=>some []
 |d::ds=>(match g d with
  |some l=>if l.length=c then(match GW g c ds with|some r=>some (l++r)|none=>none) else none
  |none=>none)
def BN(P:Program):Nat→xN→DataW Unit→Option (List xM)
 |0,_,_=>none
 |m+1,t,d=>
  match d with
  | .lit (.bool b)=>(match P.underlying t with|some .bool=>some [.bool b]|_=>none)
  | .lit (.int k n)=>(match P.underlying t with|some (.int _)=>some [.int k n]|_=>none)
  | .lit (.string b)=>(match P.underlying t with|some .string=>some [.string ⟨⟨b⟩⟩]|_=>none)
  | .agg ds=>(match P.underlying t with
   |some (.struct fs)=>(match GV P (BN P m) 0 fs.toList ds with|some l=>if l.length=P.cellsOf t then some l else none|none=>none)
   |some (.array _ e)=>(match GW (BN P m e) (P.cellsOf e) ds with|some l=>if l.length=P.cellsOf t then some l else none|none=>none)
   |_=>none)
  |_=>none
theorem Uy{α β:Type}{f:α→Option β}{a:α}{l:List α}{r:List β}(h:(a::l).mapM f=some r):∃b r',f a=some b∧l.mapM f=some r'∧r=b::r':=by
 rw[List.mapM_cons] at h;cases h1:f a with
 |none=>rw[h1] at h;cases h
 |some b=>
  rw[h1] at h;cases h2:l.mapM f with
  |none=>rw[h2] at h;cases h
  |some r'=>rw[h2] at h;cases h;exact⟨b,r',rfl,rfl,rfl⟩
theorem VH{α:Type}(cs:List α)(o a b:Nat):(cs.drop o).take (a+b)=(cs.drop o).take a++(cs.drop (o+a)).take b:=by
 rw[List.take_add,List.drop_drop]
theorem Od{w:World}{nY:Nat}{Qt:Nat→Bool}{SH:Bool}:∀(aN m:Nat) (t:xN) (cs:List xM) (d:DataW Unit) (p:List MemPlace) (l:List xM),
 DataW.trod (fun _=>()) P w nY Qt SH aN t cs=some (d,p)→BN P m t d=some l→cs=l
 |0,m,t,cs,d,p,l,h,hl=>by cases h
 |aN+1,0,t,cs,d,p,l,h,hl=>by cases hl
 |aN+1,m+1,t,cs,d,p,l,h,hl=>by
  unfold BN at hl;cases hu:P.underlying t with
  |none=>unfold DataW.trod at h;rw[hu] at h;simp at h
  |some kd=>
   have bf8:∀fs,kd= .struct fs→cs=l:=by
    rintro fs rfl;unfold DataW.trod at h;rw[hu] at h;simp only at h;split at h
    ·rename_i aC;obtain⟨xs,hx,e⟩:=xp.1 h;cases e;simp only [hu] at hl;split at hl
     ·rename_i l' ee;split at hl
      ·rename_i lW;cases hl;have go:∀(L:List Field) (o:Nat) (xs:List (DataW Unit×List MemPlace)) (l:List xM),L.mapM (fun f=>DataW.trod (fun _=>()) P w nY Qt SH aN f.type ((cs.drop f.offset).take (P.cellsOf f.type)))=some xs→
        GV P (BN P m) o L (xs.map (·.1))=some l→(cs.drop o).take l.length=l:=by
        intro L
        induction L with
        |nil=>intro o xs l h1 h2;simp at h1;subst h1;simp[GV] at h2;subst h2;simp
        |cons f L ih=>
         intro o xs l h1 h2;obtain⟨b,r',e1,e2,rfl⟩:=Uy h1;rw[List.map_cons] at h2;unfold GV at h2;split at h2
         ·rename_i ho;split at h2
          ·rename_i l1 fq;split at h2
           ·rename_i hc;split at h2
            ·rename_i l2 bG;cases h2;obtain⟨b1,b2⟩:=b;have q1:=Od aN m _ _ _ _ _ e1 fq;have q2:=ih _ _ _ e2 bG;rw[xa,VH,q2,hc,←ho,q1]
            ·cases h2
           ·cases h2
          ·cases h2
         ·cases h2
       have:=go fs.toList 0 xs l hx ee;rw[List.drop_zero,lW,←aC,List.take_length] at this;exact this
      ·cases hl
     ·cases hl
    ·cases h
   have bq3:∀n e,kd= .array n e→cs=l:=by
    rintro n e rfl;unfold DataW.trod at h;rw[hu] at h;simp only at h;split at h
    ·rename_i aC;obtain⟨xs,hx,e'⟩:=xp.1 h;cases e';simp only [hu] at hl;split at hl
     ·rename_i l' ee;split at hl
      ·rename_i lW;cases hl;have go:∀(n s:Nat) (xs:List (DataW Unit×List MemPlace)) (l:List xM),(List.range' s n).mapM (fun i=>DataW.trod (fun _=>()) P w nY Qt SH aN e ((cs.drop (i*P.cellsOf e)).take (P.cellsOf e)))=some xs→
        GW (BN P m e) (P.cellsOf e) (xs.map (·.1))=some l→(cs.drop (s*P.cellsOf e)).take l.length=l:=by
        intro n
        induction n with
        |zero=>intro s xs l h1 h2;simp at h1;subst h1;simp[GW] at h2;subst h2;simp
        |succ n ih=>
         intro s xs l h1 h2;rw[List.range'_succ] at h1;obtain⟨b,r',e1,e2,rfl⟩:=Uy h1;rw[List.map_cons] at h2;unfold GW at h2;split at h2
         ·rename_i l1 fq;split at h2
          ·rename_i hc;split at h2
           ·rename_i l2 bG;cases h2;obtain⟨b1,b2⟩:=b;have q1:=Od aN m _ _ _ _ _ e1 fq;have q2:=ih _ _ _ e2 bG;rw[Nat.succ_mul] at q2;rw[xa,VH,hc,q2,q1]
           ·cases h2
          ·cases h2
         ·cases h2
       rw[List.range_eq_range'] at hx;have:=go n 0 xs l hx ee;rw[Nat.zero_mul,List.drop_zero,lW,←aC,List.take_length] at this;exact this
      ·cases hl
     ·cases hl
    ·cases h
   cases kd with
   |struct fs=>exact bf8 fs rfl
   |array n e=>exact bq3 n e rfl
   |bool=>
    unfold DataW.trod at h;rw[hu] at h;split at h<;>first|(simp at*;done)|skip
    all_goals(first|(cases h;simp only [hu] at hl;cases hl;rfl)|(simp_all;done))
   |int k=>
    unfold DataW.trod at h;rw[hu] at h;split at h<;>first|(simp at*;done)|skip
    all_goals(first|(split at h;(rename_i hq;cases h;simp only [hu] at hl;cases hl;rw[hq.1]);(cases h))|(simp_all;done))
   |string=>
    unfold DataW.trod at h;rw[hu] at h;split at h<;>first|(simp at*;done)|skip
    all_goals(first|(split at h;(cases h;simp only [hu] at hl;cases hl;rfl);(cases h))|(simp_all;done))
   |_=>
    exfalso;rw[hu] at hl;cases d with
    |lit q=>cases q<;>cases hl
    |_=>cases hl
theorem VY{w:World}:∀{laid:List (String×DataW Unit)} {ps:List MemPlace} {n:String} {d:DataW Unit},DataW.LaidVars P w laid ps→(n,d)∈laid→
 ∃g t cs aN p,P.globalNamed n=some g∧(P.globals[g]?).map (·.type)=some t∧w.var? P n=some cs∧DataW.trod (fun _=>()) P w 0 (fun _=>true) false aN t cs.toList=some (d,p)
 |[],_,_,_,_,h=>by cases h
 |(n',d')::r,ps,n,d,hl,h=>by
  obtain⟨g,t,cs,aN,p,q,h1,h2,h3,h4,h5,_⟩:=hl;cases h with
  |head=>exact⟨g,t,cs,aN,p,h1,h2,h3,h4⟩
  |tail _ h=>exact VY h5 h
theorem wb{w:World}{laid:List (String×DataW Unit)}(h:laidMetH P laid w)(hp:(laid.all fun x=>x.2.handleName?.isNone)=true){n:String}{d:DataW Unit}{g:Nat}{t:xN}{l:List xM}(m:Nat)(hm:(n,d)∈laid)
 (hg:P.globalNamed n=some g) (ht:(P.globals[g]?).map (·.type)=some t) (hl:BN P m t d=some l):∃e fz,w.heap[g]? =some (.cells ⟨l⟩ e fz):=by
 rw[MakeChecks.laidMetH_plain _ _ _ hp] at h;obtain⟨ps,h1,_⟩:=h;obtain⟨g',t',cs,aN,p,e1,e2,e3,e4⟩:=VY h1 hm;rw[hg] at e1;cases e1;rw[ht] at e2;cases e2;have:=Od aN m _ _ _ _ _ e4 hl;simp only [World.var?,hg,xB] at e3;split at e3
 ·rename_i bC e fz hh;cases e3;exact⟨e,fz,by rw[hh,←this]⟩
 ·cases e3
theorem y2:∀(k:Nat) (l:List (Option ao)) (i:Nat) (x:ao),(fill k l).get none i=some x→l[i]? =some (some x)
 |0,l,i,x,h=>by cases h
 |k+1,[],i,x,h=>by
  have h':(T.node (fill k []) none (fill k [])).get none i=some x:=h;rw[T.jT] at h';split at h'
  ·cases h'
  ·split at h'
   ·have:=y2 k _ _ _ h';simp at this
   ·have:=y2 k _ _ _ h';simp at this
 |k+1,a::r,i,x,h=>by
  have h':(T.node (fill k (alt r true)) a (fill k (alt r false))).get none i=some x:=h;rw[T.jT] at h';split at h'
  ·rename_i h0;subst h0;rw[h'];rfl
  ·split at h'
   ·have:=y2 k _ _ _ h';rw[Dm] at this;rw[show i=2*(i/2)+1 by omega,List.getElem?_cons_succ];simpa using this
   ·have:=y2 k _ _ _ h';rw[Dm] at this;rw[show i=(2*(i/2 - 1)+1)+1 by omega,List.getElem?_cons_succ];simpa using this
def z5(v:xM):Bool:=match v with| .bool _=>true| .int _ _=>true| .string _=>true|_=>false
theorem aV2(β:af){v:xM}(h:z5 v=true):ai β v v:=by
 unfold z5 at h;split at h
 ·exact .bool _
 ·exact .int _ _
 ·exact .string _
 ·cases h
def x6(L:List (Option ao))(δ:Nat→Option D:=fun _=>none)(z:Nat→Option (Array xM):=fun _=>none):af where
 f:=fun g=>match L[g]? with
  |some (some ⟨.cells cs,es,_,_,_⟩)=>some ⟨g,0,es,cs.length⟩
  |some none=>some ⟨g,0,0,0⟩
  |_=>none
 z:=z
 d:=δ
 x:=⟨fun _=>False,z⟩
 o:=fun _=>none
theorem Gy(L:List (Option ao))(δ:Nat→Option D)(z:Nat→Option (Array xM))(g:Nat):(x6 L δ z) g=match L[g]? with|some (some ⟨.cells cs,es,_,_,_⟩)=>some ⟨g,0,es,cs.length⟩|some none=>some ⟨g,0,0,0⟩|_=>none:=rfl
def Bo(L:List (Option ao))(w:World):Prop:=∀g,g<L.length→L[g]? =some none∨∃cs es,L[g]? =some (some ⟨.cells cs,es,false,true,iY⟩)∧(cs.all z5)=true∧∃e fz,w.heap[g]? =some (.cells ⟨cs⟩ e fz)
theorem Of{w:World}{k:Nat}{L:List (Option ao)}(hL:Bo L w):
 ∀(Q:(Nat→Option D)→Node→Prop) (LL:World→Prop) (δ:Nat→Option D) (z:Nat→Option (Array xM)) (tape:List Node),LL w→L.length≤w.heap.size→wK z w→(∀nd∈tape,Q δ nd)→Inv w ⟨L.length,Q,LL⟩ (x6 L δ z) ((fA k L).pop tape) w:=by
 intro Q LL δ z tape Uf aT aQ htp;have EP:∀g l,x6 L δ z g=some l→g<L.length∧l.b=g∧l.d=0∧(L[g]? =some none∨∃cs es e fz,L[g]? =some (some ⟨.cells cs,es,false,true,iY⟩)∧(cs.all z5)=true∧w.heap[g]? =some (.cells ⟨cs⟩ e fz)∧l=⟨g,0,es,cs.length⟩):=fun g l hl=>by
  have hg:g<L.length:=by
   rw[Gy] at hl;split at hl
   ·rename_i h;exact(xe.1 h).1
   ·rename_i h;exact(xe.1 h).1
   ·cases hl
  rcases hL g hg with h1|⟨cs,es,h1,h2,e,fz,h3⟩
  ·rw[Gy,h1] at hl;cases hl;exact⟨hg,rfl,rfl,.inl h1⟩
  ·rw[Gy,h1] at hl;cases hl;exact⟨hg,rfl,rfl,.inr ⟨cs,es,e,fz,h1,h2,h3,rfl⟩⟩
 have xV:(fA k L).next=L.length:=dA L;refine⟨nK.refl _ _,fun B l h=> ?_,fun B h=> ?_,fun B l h=> ?_,fun B B' l l' h h' hb _ _=> ?_,fun B aj l h h'=> ?_,fun g hg=> ?_,aQ,(fun B l kb hG h ha hs=>absurd (EP B l h).1 (Nat.not_lt.2 hG)),htp,fun B k' hk=> ?_,(fun B v h=>by cases h),Uf,(fun b h=>h.elim),aT,fun b c h=> .inl h⟩
 ·show B<(fA k L).next;rw[xV];exact(EP B l h).1
 ·have h:(fA k L).next≤B:=h;rw[xV] at h;show(fA k L).get B=none;cases hq:(fA k L).get B with
  |none=>rfl
  |some x=>
   have:=y2 k L B x hq;have:=(xe.1 this).1;omega
 ·obtain⟨hg,hb,_,_⟩:=EP B l h;exact⟨by rw[hb];omega,.inl hg⟩
 ·rw[(EP B l h).2.1,(EP B' l' h').2.1] at hb;exact hb
 ·obtain⟨hg,_,_,hq⟩:=EP B l h';have:=y2 k L B aj h;rcases hq with h1|⟨cs,es,e,fz,h1,h2,hh,rfl⟩
  ·rw[h1] at this;cases this
  ·rw[h1] at this;cases this;refine⟨⟨cs⟩,e,fz,hh,by simp,by simp,(fun i v hv=>⟨v,by simpa using hv,aV2 _ (List.all_eq_true.1 h2 v (xu hv))⟩),(fun h=>by cases h),(fun h=>by cases h),rfl,(fun h=>absurd rfl h)⟩
 ·rcases hL g hg with h1|⟨cs,es,h1,h2,e,fz,h3⟩
  ·refine⟨⟨g,0,0,0⟩,?_,rfl,rfl⟩;rw[Gy,h1]
  ·refine⟨⟨g,0,es,cs.length⟩,?_,rfl,rfl⟩;rw[Gy,h1]
 ·have hq:=y2 k L B k' hk;rcases hL B (xe.1 hq).1 with h1|⟨cs,es,h1,_⟩
  ·rw[hq] at h1;cases h1
  ·rw[hq] at h1;cases h1;trivial
def isTrue(v:xM):Bool:=match v with| .bool b=>b|_=>false
def E6(f:xM→Bool)(x:aZ xM):Bool:=match x with|none=>false|some l=>ey (fun p=>f p.1) l
theorem aJ3{E:aq}{call:cT→List xM→AW→aZ xM}(hc:fG P E call){f:FuncId}{A:AW}(h:E6 isTrue (call (.fn f) [] A)=true){w:World}{β:af}(inv:Inv w E.G β A w)(hx:∀k,¬β.x k):
 Calls P f #[] w fun e w'=>e= .returned (.bool true)∧Below w.heap.size w w':=by
 unfold E6 at h;split at h
 ·cases h
 ·rename_i l hl;refine(hc w (.fn f) [] A l β w [] hl inv (aP.nil β)).mono fun e w' ⟨p,hp,ah,v',h1,h2,h3,h4,_⟩=> ?_
  have ht:=nI _ _ h p hp;unfold isTrue at ht;split at ht
  ·rename_i b hb;cases ht;rw[hb] at h2;cases h2;exact⟨h1,h3.below.below (fun k=>by rw[h4.x];exact hx k)⟩
  ·cases ht
end
def RdL(z:Nat→Option (Array xM))(ds:List D)(vs:List xM):Prop:=ds.length=vs.length∧∀(i:Nat) (d:D) (v:xM),ds[i]? =some d→vs[i]? =some v→Rd z d v
def NP(P:Program)(L:World→Prop)(f:FuncId)(ds:List D)(eN:D):Prop:=
 ∀(w:World) (z:Nat→Option (Array xM)) (args':List xM),L w→wK z w→RdL z ds args'→
  Calls P f ⟨args'⟩ w fun e w'=>∃v z',e= .returned v∧Below w.heap.size w w'∧wK z' w'∧(∀b c,z b=some c→z' b=some c)∧(∀b c,z' b=some c→z b=some c∨w.heap.size≤b)∧Rd z' eN v
def cv6(P:Program)(L:World→Prop)(δ:Nat→Option D)(nd:Node)(f:FuncId):Prop:=
 ∃ds d,aX (cb δ) nd.args=some ds∧res δ nd.res=some d∧NP P L f ds d
def GQ(P:Program)(L:World→Prop)(δ:Nat→Option D)(nd:Node):Prop:=
 match nd.k with
 | .call f=>cv6 P L δ nd f
 |_=>dt δ nd
theorem GQ.op{P:Program}{L:World→Prop}{δ:Nat→Option D}{nd:Node}(h:GQ P L δ nd):dt δ nd:=by
 unfold GQ at h;split at h
 ·rename_i f hk;unfold dt;rw[hk];trivial
 ·exact h
section
variable{P:Program}{E:aq}(ok:E.Ok P){w0 w:World}{β:af}{A:AW}(inv:Inv w0 E.G β A w)
include ok inv in
theorem Inv.laid:E.G.L w:=ok.lx w0 w inv.lay fun b hb=>inv.below.block b (xK hb inv.jA) (fun hx=>by have:=inv.xg b hx;omega)
theorem Inv.fresh(inv:Inv w0 E.G β A w){w':World}{z':Nat→Option (Array xM)}(hb:Below w.heap.size w w')(aQ:wK z' w')(h1:∀b c,β.z b=some c→z' b=some c)(h2:∀b c,z' b=some c→β.z b=some c∨w.heap.size≤b):
 Inv w0 E.G {β with z:=z'} A w'∧β.grow {β with z:=z'} A.next:=by
 have hg:β.grow {β with z:=z'} A.next:=⟨fun _ _=>rfl,h1,fun _ _=>rfl,rfl,rfl⟩;have aK:=inv.fX hg;refine⟨⟨inv.below.trans ⟨hb.os,hb.tape,hb.output,hb.size,fun k hk _=>hb.block k hk⟩,inv.g9,inv.dz,fun B l e=>⟨xK (inv.loc B l e).1 hb.size,(inv.loc B l e).2⟩,inv.inj,fun B aj l hk e=> ?_,inv.jg,aQ,fun B l aj hG e hk hs=> ?_,inv.eO,
  fun B k hk=>(inv.own B k hk).mono aK,inv.jf,inv.lay,inv.xg,inv.jA,fun b c h=>(h2 b c h).elim (fun h=>inv.zo b c h) (fun h=> .inr (.inl (xH inv.below.size h)))⟩,hg⟩
 ·rw[hb.block l.b (inv.loc B l e).1];exact(inv.cont B aj l hk e).mono aK
 ·cases hz:z' l.b with
  |none=>exact hz
  |some c=>
   exfalso;rcases h2 _ _ hz with h|h
   ·have:=inv.sep B l aj hG e hk hs;rw[this] at h;cases h
   ·have:=(inv.loc B l e).1;omega
end
theorem bb1{β:af}:∀{vs args':List xM} {ds:List D},aX (cb β.d) vs=some ds→aP β vs args'→RdL β.z ds args':=fun{vs args' ds} h hl=>
 ⟨(l6 h).trans hl.1,fun i d v hd hv=>by
  have hi:i<vs.length:=by rw[hl.1];exact(xe.1 hv).1
  exact fY (jU h hd (xc hi)) (hl.2 i _ _ (xc hi) hv)⟩
theorem aQ4{P:Program}{E:aq}{call:cT→List xM→AW→aZ xM}(hc:fG P E call){L:List (Option ao)}{Q:(Nat→Option D)→Node→Prop}{LL:World→Prop}(hG:E.G=⟨L.length,Q,LL⟩)
 (hL:∀w,LL w→L.length≤w.heap.size∧Bo L w)
 {k:Nat} {f:FuncId} {args:List xM} {tape:List Node} {rv:xM} (aJ:E6 (fun v=>uu v rv) (call (.fn f) args ((fA k L).pop tape))=true) {δ:Nat→Option D} {ds:List D} {eN:D}
 (iR:aX (jq δ) args=some ds) (sK:az δ rv=some eN) (hn:∀nd∈tape,Q δ nd):NP P LL f ds eN:=by
 intro w z args' FL aQ ez;unfold E6 at aJ;split at aJ
 ·cases aJ
 ·rename_i bj ho;have inv:=Of (k:=k) (hL w FL).2 Q LL δ z tape FL (hL w FL).1 aQ hn;rw[←hG] at inv;have ii:aP (x6 L δ z) args args':=⟨(l6 iR).symm.trans ez.1,fun i v v' hv dF=>by
   have hi:i<ds.length:=by rw[ez.1];exact(xe.1 dF).1
   exact yZ (β:=x6 L δ z) (jU iR (xc hi) hv) (ez.2 i _ _ (xc hi) dF)⟩
  refine(hc w (.fn f) args _ bj _ w args' ho inv ii).mono fun e w' hp=> ?_
  obtain⟨p,hp,ah,v',he,hv,hi,hg,_⟩:=hp;have TU:=Dp (nI _ _ aJ p hp);refine⟨v',ah.z,he,hi.below.below (fun k=>by rw[hg.x];exact fun h=>h),hi.bB,hg.z,fun b c h=> ?_,bt6 (by rw[hg.d,TU];exact sK) hv⟩;have:=hi.zo b c h;rw[hg.x] at this;exact this.imp id (fun h=>h.elim id (fun h=>h.elim))
abbrev Aj:=List (Nat×List xM×xM)
def Mm(f:Nat)(args:List xM)(l:Aj):Option xM:=
 List.rec (motive:=fun _=>Option xM) none (fun e _ ih=>bs (Nat.beq f e.1) (bs (Ez args e.2.1) (some e.2.2) ih) ih) l
theorem Ou{f:Nat}{args:List xM}{v:xM}:∀{l:Aj},Mm f args l=some v→(f,args,v)∈l
 |[],h=>by cases h
 |e::l,h=>by
  have h':bs (Nat.beq f e.1) (bs (Ez args e.2.1) (some e.2.2) (Mm f args l)) (Mm f args l)=some v:=h;rcases au h' with⟨h1,h2⟩|⟨_,h2⟩
  ·rcases au h2 with⟨h3,h2⟩|⟨_,h2⟩
   ·cases h2;obtain⟨a,b,c⟩:=e;have e1:=xb h1;have e2:=JL _ _ h3;simp only at e1 e2;subst e1 e2;exact xn
   ·exact xo _ (Ou h2)
  ·exact xo _ (Ou h2)
def nQ(l:Aj)(t:cT)(args:List xM)(A:AW):aZ xM:=
 match t with
 | .rd _=>none
 | .dy _=>none
 | .fn f=>match Mm f args l with|some v=>some [(v,A)]|none=>none
def GY(call:cT→List xM→AW→aZ xM)(A:AW)(e:Nat×List xM×xM):Bool:=
 E6 (fun v=>uu v e.2.2) (call (.fn e.1) e.2.1 A)&& (aX (jq (fun _=>none)) e.2.1).isSome&& (res (fun _=>none) e.2.2).isSome
theorem aR0{δ:Nat→Option D}{v:xM}{d:D}(h:bP (fun _=>none) v=some d):bP δ v=some d:=by
 unfold bP at*;split at h
 ·cases h
 all_goals exact h
theorem p9{g g':xM→Option D}(hg:∀v d,g v=some d→g' v=some d):∀{l:List xM} {ds:List D},aX g l=some ds→aX g' l=some ds
 |[],_,h=>h
 |v::l,ds,h=>by
  obtain⟨d,r,rfl,h1,h2⟩:=jB h;unfold aX;rw[hg _ _ h1,p9 hg h2]
theorem Vm{δ:Nat→Option D}{v:xM}{d:D}(h:gi (fun _=>none) v=some d):gi δ v=some d:=by
 unfold gi at*;split at h
 ·cases h
 ·exact aR0 h
theorem Oi{δ:Nat→Option D}{v:xM}{d:D}(h:jq (fun _=>none) v=some d):jq δ v=some d:=by
 unfold jq at*;split at h
 ·obtain⟨ds,h1,rfl⟩:=xp.1 h;simp only [p9 (fun v d=>Vm) h1,Option.map_some]
 ·exact Vm h
theorem aV3{δ:Nat→Option D}{v:xM}{d:D}(h:res (fun _=>none) v=some d):res δ v=some d:=by
 unfold res at*;split at h
 ·obtain⟨ds,h1,rfl⟩:=xp.1 h;simp only [p9 (fun v d=>Oi) h1,Option.map_some]
 ·exact Oi h
theorem VO{δ:Nat→Option D}{v:xM}{d:D}(h:gi δ v=some d):bP δ v=some d:=by
 unfold gi at h;split at h
 ·cases h
 ·exact h
theorem OG{δ:Nat→Option D}{v:xM}{d:D}(h:jq δ v=some d):cb δ v=some d:=by
 unfold jq at h;unfold cb;split at h
 ·obtain⟨ds,h1,rfl⟩:=xp.1 h;simp only [p9 (fun v d=>VO) h1,Option.map_some]
 ·exact VO h
theorem bd2{δ:Nat→Option D}{v:xM}{d:D}(h:res δ v=some d):az δ v=some d:=by
 unfold res at h;unfold az;split at h
 ·obtain⟨ds,h1,rfl⟩:=xp.1 h;simp only [p9 (fun v d=>OG) h1,Option.map_some]
 ·exact OG h
theorem pq{P:Program}{E:aq}(ok:E.Ok P){l:Aj}(h:∀f args v,(f,args,v)∈l→∃ds d,aX (jq (fun _=>none)) args=some ds∧res (fun _=>none) v=some d∧NP P E.G.L f ds d):fG P E (nQ l):=by
 intro w0 t args A bj β w args' ho inv iR;unfold nQ at ho;split at ho
 ·cases ho
 ·cases ho
 ·rename_i f;split at ho
  ·rename_i v hv;cases ho;obtain⟨ds,d,e1,e2,e3⟩:=h f args v (Ou hv);refine(e3 w β.z args' (inv.laid ok) inv.bB (bb1 (p9 (fun v d h=>OG (Oi h)) e1) iR)).mono fun e w' hp=> ?_
   obtain⟨v',z',rfl,hb,aQ,z1,z2,hr⟩:=hp;obtain⟨hi,hg⟩:=inv.fresh hb aQ z1 z2;exact⟨_,xn,{β with z:=z'},v',rfl,bd1 (β:={β with z:=z'}) (aV3 e2) hr,hi,hg,xk _⟩
  ·cases ho
theorem pr{P:Program}{E:aq}{call:cT→List xM→AW→aZ xM}(hc:fG P E call){L:List (Option ao)}{Q:(Nat→Option D)→Node→Prop}{LL:World→Prop}(hG:E.G=⟨L.length,Q,LL⟩)
 (hL:∀w,LL w→L.length≤w.heap.size∧Bo L w)
 {k:Nat} {l:Aj} (h:ey (GY call (fA k L)) l=true):∀f args v,(f,args,v)∈l→∃ds d,aX (jq (fun _=>none)) args=some ds∧res (fun _=>none) v=some d∧NP P LL f ds d:=fun f args v hm=>by
 have:=nI _ _ h _ hm;unfold GY at this;simp only [xf] at this;obtain⟨⟨h1,h2⟩,h3⟩:=this;obtain⟨ds,hds⟩:=Option.isSome_iff_exists.1 h2;obtain⟨d,hd⟩:=Option.isSome_iff_exists.1 h3;exact⟨ds,d,hds,hd,aQ4 (k:=k) (tape:=[]) hc hG hL h1 (δ:=fun _=>none) hds (bd2 hd) (fun nd h=>by cases h)⟩
section
variable{P:Program}
end
end
end Go.Ex
