/- A verified evaluator of Go functions. -/
import Derived.Test.YtnjdjocokegphaaGreatDoorX6
import Derived.OrdersIn
import Derived.TacticsIn
import Derived.RangeFuncRecord
import Derived.Orders
set_option linter.unusedVariables false
set_option linter.unusedSimpArgs false
namespace Go.Ex
open Go.RowKit
noncomputable section
abbrev jC(ro:Option Nat):Fence:={Fence.wide with round:=ro}
theorem Z2(ro:Option Nat)(n:Nat):(jC ro).room n:=fun _ h=>by simp[Fence.wide] at h
theorem Y3{ro:Option Nat}{n:Nat}{P:Program}{f:FuncId}{args:Array xM}{w:World}{R:Ending→World→Prop}(h:Calls P f args w R):CallsIn (jC ro) n P f args w R:=
 (callsIn_wide.2 h:CallsIn Fence.wide n P f args w R)
theorem bB3{ro:Option Nat}{n:Nat}{P:Program}{l:Nat}{f:FuncId}{tmps:Array xM}{a b:Code}{w:World}{R:Ending→World→Prop}(h:RoundIn Fence.wide n P l f tmps a b w R):RoundIn (jC ro) n P l f tmps a b w R:=h
def oU(w0:World)(G:GP)(n:Nat)(β:ah)(A:AW)(ds:List Deferred)(bh:List (Fr×AW))(a':Act)(w':World):Prop:=
 ∃p∈bh,∃ak,bX ak n (p.1.get J) a'.tmps∧Inv w0 G ak p.2 w'∧β.grow ak A.next∧A.next≤p.2.next∧a'.defers=ds
def R5(w0:World)(G:GP)(β:ah)(A:AW)(bh:List (xM×AW))(e:Ending)(w':World):Prop:=
 ∃p∈bh,∃ak v',e= .returned v'∧ai ak p.1 v'∧Inv w0 G ak p.2 w'∧β.grow ak A.next∧A.next≤p.2.next
def fN(P:Program)(E:av)(call:cL→List xM→AW→aZ xM):Prop:=
 ∀w0 t args A bh β w args',call t args A=some bh→Inv w0 E.G β A w→aT β args args'→
  match t with
  | .fn f=>Calls P f ⟨args'⟩ w (R5 w0 E.G β A bh)
  | .dy v=>∀f',ai β v f'→∃g p q fn c,f'= .func (.func g) ⟨p⟩ ⟨q⟩∧P.funcs[g]? =some fn∧fn.body=some c∧ ¬fn.name= "runtime.NumGoroutine"∧Calls P g ⟨p++args'++q⟩ w (R5 w0 E.G β A bh)
  | .rd L=>∀l,β L=some l→∃f tmps a b,(Instr.yield l.b ⟨args'⟩).run P w= .ok (.round l.b f tmps a b) w∧RoundIn Fence.wide 0 P l.b f tmps a b w (R5 w0 E.G β A bh)
def tE(P:Program)(E:av)(n:Nat)(bL:List Oper→Fr→AW→aZ Fr):Prop:=
 ∀ro w0 ops fr A bh β a w id,bL ops fr A=some bh→bX β n (fr.get J) a.tmps→Inv w0 E.G β A w→
  (Code.region id ⟨ops⟩ true).wpIn (jC ro) 0 P (fun e a' w'=>e= .normal∧oU w0 E.G n β A a.defers bh a' w') a w
theorem oU.mono{w0:World}{G:GP}{n:Nat}{β aO:ah}{A A1:AW}{ds:List Deferred}{bh FM:List (Fr×AW)}{a':Act}{w':World}(h:oU w0 G n aO A1 ds FM a' w')(hg:β.grow aO A.next)(hn:A.next≤A1.next)(Tl:∀c∈FM,c∈bh):oU w0 G n β A ds bh a' w':=by
 obtain⟨p,hp,ak,h1,h2,h3,h4,h5⟩:=h;exact⟨p,Tl p hp,ak,h1,h2,ah.iB hg h3 hn,xH hn h4,h5⟩
theorem EW{ops:List Oper}{fr:Gt}{o:Oper}{b:Bool}{β:ah}{n:Nat}{a:Act}(h:oM ops fr o=some b)(hf:bX β n fr a.tmps):Region.wanted o (yielded ⟨ops⟩ a.tmps)=b:=by
 unfold oM at h;unfold Region.wanted;split at h
 ·rename_i hg;cases h;rw[hg]
 ·rename_i j want hg;rw[hg];simp only;have hy:∀t,((ops[j]?).bind (·.dst))=some t→yielded ⟨ops⟩ a.tmps j=match a.tmps[t]? with|some (.bool b)=>some b|_=>none:=fun t ht=>by
   unfold yielded;have:(((⟨ops⟩:Array Oper)[j]?).bind (·.dst))=some t:=by simpa using ht
   rw[this];rfl
  have hn:((ops[j]?).bind (·.dst))=none→yielded ⟨ops⟩ a.tmps j=none:=fun ht=>by
   unfold yielded;have:(((⟨ops⟩:Array Oper)[j]?).bind (·.dst))=none:=by simpa using ht
   rw[this];rfl
  rw[eL] at h;split at h
  ·rename_i g NG;split at h
   ·rename_i t ht;have e:=hy t (by rw[NG];exact ht);rw[e];have hv:=hf.2 t;cases hc:a.tmps[t]? with
    |none=>
     have hd:a.tmps.getD t undef=undef:=by simp[hc]
     rw[hd] at hv;split at h
     ·rename_i hb;rw[hb] at hv;cases hv
     ·cases h
     ·cases h;rfl
    |some x=>
     have hd:a.tmps.getD t undef=x:=by simp[hc]
     rw[hd] at hv;split at h
     ·rename_i b0 hb;rw[hb] at hv;cases hv;cases h;cases b0<;>cases want<;>rfl
     ·cases h
     ·rename_i rk NB;cases h;cases hx:x with
      |bool b0=>
       rw[hx] at hv;generalize fr t=y at*;cases hv with
       |j9=>exact absurd rfl (NB _)
       |sym=>exact absurd rfl (NB _)
       |bool=>exact absurd rfl (rk _)
      |_=>rfl
   ·rename_i ht;cases h;rw[hn (by rw[NG];exact ht)];rfl
  ·rename_i NG;cases h;rw[hn (by rw[NG];rfl)];rfl
theorem OT{E:av}{sq:List (Nat×List xO)}{A:AW}{g:Gt}{o:Oper}{r:R}(h:iY E sq A g o.op=r)(hr:r≠ .fail)(ro:Option Nat)(ρ:Operand→xM):Oper.semAt ro ρ o=execOp ρ o:=
 Oper.semAt_eq ro ρ o (fun c hc=>hr (by
  rw[←h,hc];unfold iY;split
  ·rfl
  ·unfold vB;split<;>rfl))
theorem OA{E:av}{sq:List (Nat×List xO)}{A:AW}{g:Gt}{o:Oper}{r:R}(h:aC E sq A g o.op=r)(hr:r≠ .fail)(ro:Option Nat)(ρ:Operand→xM):Oper.semAt ro ρ o=execOp ρ o:=
 Oper.semAt_eq ro ρ o (fun c hc=>hr (by rw[←h,hc];rfl))
theorem bb7{E:av}{sq:List (Nat×List xO)}{A:AW}{g:Gt}{o:Oper}{nd:Node}{v:xM}(h:n5 E sq A g o.op nd=some v)(ro:Option Nat)(ρ:Operand→xM):Oper.semAt ro ρ o=execOp ρ o:=
 Oper.semAt_eq ro ρ o (fun c hc=>by rw[hc] at h;cases h)
section
variable{P:Program}{E:av}(ok:E.Ok P){sq:List (Nat×List xO)}(aY:E.Seq P sq){w0:World}
theorem Jf{γ:Type}{n:Nat}{fr:Fr}{dst:Option Tmp}{v v':xM}{k:Fr→Option (List γ)}{bh:List γ}{β:ah}{a:Act}(h:pF n fr dst v k=some bh)(hf:bX β n (fr.get J) a.tmps)(hv:ai β v v'):
 ∃cP,k cP=some bh∧bX β n (cP.get J) (a.put dst v').tmps∧(a.put dst v').defers=a.defers:=by
 cases dst with
 |none=>exact⟨fr,h,hf,rfl⟩
 |some d=>
  have h':Bool.rec (motive:=fun _=>Option (List γ)) none (yg v (fun v=>fr.kB d v k)) (Nat.ble (Nat.succ d) n)=some bh:=h;cases hd:Nat.ble (Nat.succ d) n with
  |false=>rw[hd] at h';cases h'
  |true=>
   rw[hd] at h';have h2:yg v (fun v=>fr.kB d v k)=some bh:=h';rw[EN,T.Jb] at h2;exact⟨_,h2,hf.put (xh hd) hv,rfl⟩
section
variable{w:World}{β:ah}{A:AW}(inv:Inv w0 E.G β A w){n:Nat}{fr:Gt}{a:Act}(hf:bX β n fr a.tmps){o:Oper}{ro:Option Nat}{K:Act→World→Prop}{Q:Exit→Act→World→Prop}
include ok aY inv hf in
theorem Ym{v:xM}{A':AW}(h:iY E sq A fr o.op= .val v A')(hK:∀ak v' w',ai ak v v'→Inv w0 E.G ak A' w'→β.grow ak A.next→A.next≤A'.next→K (a.put o.dst v') w'):o.wpIn (jC ro) 0 P a w K Q:=by
 obtain⟨ak,v',w',aM,hv,bU,hg,hn⟩:=bC3 ok aY inv hf h;have key:=hK ak v' w' hv bU hg hn;unfold Oper.wpIn;refine⟨fun _ _=>trivial,?_⟩;rw[OT h (by simp)];rcases aM with hr|⟨hr,rfl⟩
 ·rw[hr];exact key
 ·rw[hr];exact key
include ok aY inv hf in
theorem bo7{v:xM}{A':AW}(h:aC E sq A fr o.op= .val v A')(hK:∀ak v' w',ai ak v v'→Inv w0 E.G ak A' w'→β.grow ak A.next→A.next≤A'.next→K (a.put o.dst v') w'):o.wpIn (jC ro) 0 P a w K Q:=by
 obtain⟨ak,v',w',aM,hv,bU,hg,hn⟩:=QN ok aY inv hf h;unfold Oper.wpIn;refine⟨fun _ _=>trivial,?_⟩;rw[OA h (by simp)];rcases aM with h1|⟨h1,rfl⟩
 ·rw[h1];exact hK ak v' w' hv bU hg hn
 ·rw[h1];exact hK ak undef w' hv bU hg hn
include inv hf in
theorem bU9{q:List (xM×AW)}(h:iY E sq A fr o.op= .nd q)(hK:∀p∈q,∀ak v' w',ai ak p.1 v'→Inv w0 E.G ak p.2 w'→β.grow ak A.next→A.next≤p.2.next→K (a.put o.dst v') w'):o.wpIn (jC ro) 0 P a w K Q:=by
 obtain⟨p,hp,ak,v',w',aM,hv,bU,hg,hn⟩:=bC4 (P:=P) inv hf h;have key:=hK p hp ak v' w' hv bU hg hn;unfold Oper.wpIn;refine⟨fun _ _=>trivial,?_⟩;rw[OT h (by simp)];rcases aM with hr|⟨hr,rfl⟩
 ·rw[hr];exact key
 ·rw[hr];exact key
include ok inv hf in
theorem Xi{call:cL→List xM→AW→aZ xM}(hc:fN P E call){t:cL}{args:List xM}{bh:List (xM×AW)}(h:iY E sq A fr o.op= .call t args)(li:call t args A=some bh)
 (hK:∀p∈bh,∀ak v' w',ai ak p.1 v'→Inv w0 E.G ak p.2 w'→β.grow ak A.next→A.next≤p.2.next→K (a.put o.dst v') w'):o.wpIn (jC ro) 0 P a w K Q:=by
 obtain⟨args',il,aM⟩:=bi8 ok inv hf h;have uA:=hc w0 t args A bh β w args' li inv il;unfold Oper.wpIn;refine⟨fun _ _=>trivial,?_⟩;rw[OT h (by simp)];cases t with
 |fn f=>
  have GF:(execOp a.eval o).run P w= .ok (.enter f ⟨args'⟩) w:=aM;rw[GF];refine⟨fun h=>by simp[Fence.wide] at h,Y3 (Calls.mono uA ?_)⟩;rintro e w' ⟨p,hp,ak,v',rfl,hv,bU,hg,hn⟩;exact hK p hp ak v' w' hv bU hg hn
 |dy v=>
  obtain⟨f',hv,GF⟩:=aM;obtain⟨Iq,p,q,fn,c,e1,e2,e3,e4,bF1⟩:=uA f' hv;rw[GF Iq p q fn c e1 e2 e3 e4];refine⟨fun h=>by simp[Fence.wide] at h,Y3 (Calls.mono bF1 ?_)⟩;rintro e w' ⟨p,hp,ak,v',rfl,hv,bU,hg,hn⟩;exact hK p hp ak v' w' hv bU hg hn
 |rd L=>
  obtain⟨l,hl,GF⟩:=aM;obtain⟨f,tmps,x,y,hy,bE3⟩:=uA l hl;rw[GF,hy];refine⟨fun h=>by simp[Fence.wide] at h,bB3 (RoundIn.mono bE3 ?_)⟩;rintro e w' ⟨p,hp,ak,v',rfl,hv,bU,hg,hn⟩;exact hK p hp ak v' w' hv bU hg hn
end
include ok aY in
theorem Cu{call:cL→List xM→AW→aZ xM}(hc:fN P E call){n:Nat}{ops:List Oper}{ro:Option Nat}{ds:List Deferred}:∀(l:List Oper) (fr:Fr) (A:AW) (bh:List (Fr×AW)) (β:ah) (a:Act) (w:World) (Q:Exit→Act→World→Prop),
 tV E sq call n ops l fr A=some bh→bX β n (fr.get J) a.tmps→Inv w0 E.G β A w→a.defers=ds→(∀a' w',oU w0 E.G n β A ds bh a' w'→Q .normal a' w')→wpListIn (jC ro) 0 P ⟨ops⟩ Q l a w
 |[],fr,A,bh,β,a,w,Q,h,hf,inv,hd,hQ=>by
  cases h;exact hQ a w ⟨_,xn,β,hf,inv,ah.ca _ _,xk _,hd⟩
 |o::l,fr,A,bh,β,a,w,Q,h,hf,inv,hd,hQ=>by
  have h':(match oM ops (fr.get J) o with
   |none=>none
   |some false=>pF n fr o.dst undef (fun fr=>tV E sq call n ops l fr A)
   |some true=>match iY E sq A (fr.get J) o.op with
    | .fail=>none
    | .val v A'=>pF n fr o.dst v (fun fr=>u7 A' (fun A'=>tV E sq call n ops l fr A'))
    | .call f args=>j7 (call f args A) (fun p=>pF n fr o.dst p.1 (fun fr=>tV E sq call n ops l fr p.2))
    | .nd q=>j7 (some q) (fun p=>pF n fr o.dst p.1 (fun fr=>tV E sq call n ops l fr p.2)))=some bh:=by
   rw[←h];exact(bw0 _ _ call n o (tV E sq call n ops l) fr A).symm
  clear h;unfold wpListIn;split at h'
  ·cases h'
  ·rename_i hw;rw[EW hw hf,if_neg (by simp)];obtain⟨cP,h1,h2,h3⟩:=Jf h' hf (ai.undef (β:=β));exact⟨fun _ _=>trivial,Cu hc l cP A bh β _ w Q h1 h2 inv (h3.trans hd) hQ⟩
  ·rename_i hw;rw[EW hw hf,if_pos rfl];split at h'
   ·cases h'
   ·rename_i v A' eu;refine Ym ok aY inv hf eu (fun ak v' w' hv bU hg hn=> ?_);have aR:=inv.fY hg;obtain⟨cP,h1,h2,h3⟩:=Jf h' (hf.mono aR) hv;rw[EO] at h1;exact Cu hc l cP A' bh ak (a.put o.dst v') w' Q h1 h2 bU (h3.trans hd) (fun a2 w2 hp=>hQ a2 w2 (hp.mono hg hn (fun _ hc=>hc)))
   ·rename_i f args eu;obtain⟨fj,fy,bF⟩:=uO h';refine Xi ok inv hf hc eu fy (fun p hp ak v' w' hv bU hg hn=> ?_);obtain⟨r,ep,bK⟩:=bF p hp;have aR:=inv.fY hg;obtain⟨cP,h1,h2,h3⟩:=Jf ep (hf.mono aR) hv;exact Cu hc l cP p.2 r ak (a.put o.dst v') w' Q h1 h2 bU (h3.trans hd) (fun a2 w2 bf=>hQ a2 w2 (bf.mono hg hn bK))
   ·rename_i q eu;obtain⟨fj,fy,bF⟩:=uO h';cases fy;refine bU9 inv hf eu (fun p hp ak v' w' hv bU hg hn=> ?_);obtain⟨r,ep,bK⟩:=bF p hp;have aR:=inv.fY hg;obtain⟨cP,h1,h2,h3⟩:=Jf ep (hf.mono aR) hv;exact Cu hc l cP p.2 r ak (a.put o.dst v') w' Q h1 h2 bU (h3.trans hd) (fun a2 w2 bf=>hQ a2 w2 (bf.mono hg hn bK))
theorem VH{b:Frame}{a:Act}{k:List Item}{cs:List Frame}{w:World}{c:Code}:step P (lone (b.atR a (.code (.scope c)::k)) cs w)= .next (lone (b.atR a (.code c:: .inScope c::k)) cs w):=
 step_lone_go (by simp[stepG,stepG.exec,Frame.atR])
theorem Vs{b:Frame}{a:Act}{k:List Item}{cs:List Frame}{w:World}{c:Code}:step P (lone (b.atR a (.inScope c::k)) cs w)= .next (lone (b.atR a k) cs w):=
 step_lone_go (by simp[stepG,stepG.exec,Frame.atR])
def De(β:ah):List Nat→List Deferred→Prop
 |[],[]=>True
 |D::ms,d::ds=>(∃l,β D=some l∧d.target= .collected l.b)∧De β ms ds
 |_,_=>False
theorem De.mono{β ak:ah}(hb:β.le ak):∀{ms:List Nat} {ds:List Deferred},De β ms ds→De ak ms ds
 |[],[],_=>trivial
 |_::_,_::_,⟨⟨l,h1,h2⟩,h3⟩=>⟨⟨l,hb.f _ _ h1,h2⟩,h3.mono hb⟩
 |[],_::_,h=>h.elim
 |_::_,[],h=>h.elim
theorem Iy(w:World)(g:Nat)(o:Obj):w.grownBy (w.putObj g o) (some g):=
 ⟨rfl,rfl,rfl,by simp,fun k _ hk=>World.putObj_heap_other (fun e=>hk (by rw[e]))⟩
theorem Xp{β:ah}:∀(ms:List Nat) (ds:List Deferred) (A A':AW) (w:World) (fr:Frame) (cs:List Frame),QE E ms A=some A'→De β ms ds→Inv w0 E.G β A w→fr.mode≠ .run→fr.defers=ds→
 ∃w',Inv w0 E.G β A' w'∧A'.next=A.next∧Steps P (lone fr cs w) (lone {fr with defers:=[]} cs w')
 |[],[],A,A',w,fr,cs,h,_,inv,hm,hd=>by
  cases h;refine⟨w,inv,rfl,?_⟩;rw[←hd];exact .refl P _
 |D::ms,d::ds,A,A',w,fr,cs,h,⟨⟨l,hl,ht⟩,zi⟩,inv,hm,hd=>by
  have h':(match A.get D with
   |some ⟨.wG,_,_,_,_⟩=>bs (Nat.ble E.G.n D) (QE E ms (A.put D none)) none
   |_=>none)=some A':=h
  clear h;split at h'
  ·rename_i es ex r ty hg;replace h':=aB h';rcases h' with⟨hG,h'⟩|⟨_,h'⟩
   ·have Eg:w.heap[l.b]? =some (.deferred (some [])):=inv.cont D _ l hg hl;have AS:=inv.forget (w':=w.putObj l.b (.deferred none)) D l _ hg hl (xh hG) (Iy w l.b _) (by simp);obtain⟨w',h1,h2,h3⟩:=Xp ms ds (A.put D none) A' _ {fr with defers:=[]++ds} cs h' zi AS hm rfl;exact⟨w',h1,h2,.head (step_collected hm hd ht (run_takeDeferred Eg)) h3⟩
   ·cases h'
  ·cases h'
 |[],_::_,_,_,_,_,_,_,h,_,_,_=>h.elim
 |_::_,[],_,_,_,_,_,_,h,_,_,_=>h.elim
def yJ(β:ah)(ro r:Option Nat):Prop:=match ro,r with|none,none=>True|some L,some l=>∃lb,β L=some lb∧lb.b=l|_,_=>False
theorem yJ.mono{β ak:ah}(hb:β.le ak){ro r:Option Nat}(h:yJ β ro r):yJ ak ro r:=by
 unfold yJ at*;cases ro<;>cases r<;>first|exact h|exact h.imp fun lb ⟨e1,e2⟩=>⟨hb.f _ _ e1,e2⟩
def MI(w:World)(r:Option Nat):xM:=
 match r with
 |some l=>(match w.heap[l]? with|some (.loop rec)=> .bool rec.pending.isNone|_=> .bool true)
 |none=> .bool true
def y2(ro:Option Nat)(b:Frame)(cs:List Frame)(a:Act)(td:List Item)(w:World):Machine:=
 match ro,cs with
 |some _,c::bu=>lone (c.finish (MI w b.roundOf)) bu w
 |_,_=>lone {b.atR a td with mode:= .returning} cs w
include ok in
theorem bn1{A:AW}{fv fv' y y':xM}{g:FuncId}{args:List xM}{β:ah}{w:World}(h:yI E A fv [y]= .call (.fn g) args)(hv:ai β fv fv')(hy:ai β y y'):
 ∃d args',(Deferred.ofValue fv' #[y']).run P w= .ok d w∧(invoke d.target d.args).run P w= .ok (.enter g ⟨args'⟩) w∧aT β args args':=by
 unfold yI at h;split at h
 ·rename_i Iq p q;split at h
  ·rename_i nm Up ta ps rt nf nt rs bd nr ou fi el ln me tn nP;cases h;obtain⟨Dy,Av⟩:=ok.fn g _ nP;have Qf: ¬nm= "runtime.NumGoroutine":=by simpa using Av
   cases hv with
   |func _ _ p' _ q' hp hq h1 h2=>
    refine⟨{target:= .fn (.func g) ⟨q'⟩,args:=⟨p'⟩++ #[y']},p'++[y']++q',by simp[Deferred.ofValue],?_,?_⟩
    ·simp[invoke,callFunc,program,Sem.run,Dy,Qf]
    ·rw[iN,iN];exact(aT.append ⟨hp,h1⟩ ((aT.nil β).cons hy)).append ⟨hq,h2⟩
  ·split at h
   ·cases h
   ·unfold dT at h;split at h<;>cases h
 ·cases h
 ·cases h
 ·cases h
include ok aY in
theorem Co{call:cL→List xM→AW→aZ xM}(hc:fN P E call){n:Nat}{bL:List Oper→Fr→AW→aZ Fr}(jW:tE P E n bL){ro:Option Nat}{b:Frame}{cs:List Frame}(bZ:ro.isSome=true→b.kind= .normal∧∃c bu,cs=c::bu):
 ∀(aP:Nat) (ms:List Nat) (eh:List Item) (fr:Fr) (A:AW) (bh:List (Fr×AW)) (β:ah) (a:Act) (w:World),vG E sq call n bL ro aP ms eh fr A=some bh→bX β n (fr.get J) a.tmps→Inv w0 E.G β A w→De β ms a.defers→yJ β ro b.roundOf→
  ∃a' w' td,oU w0 E.G n β A [] bh a' w'∧Steps P (lone (b.atR a eh) cs w) (y2 ro b cs a' td w')
 |0,ms,eh,fr,A,bh,β,a,w,h,hf,inv,zi,gQ=>by cases h
 |aP+1,ms,eh,fr,A,bh,β,a,w,h,hf,inv,zi,gQ=>by
  have h':QH E sq call n bL ro (vG E sq call n bL ro aP) ms eh fr A=some bh:=h;clear h;rw[bh2] at h';unfold Zf at h';have go:∀nZ,vG E sq call n bL ro aP ms nZ fr A=some bh→step P (lone (b.atR a eh) cs w)= .next (lone (b.atR a nZ) cs w)→
   ∃a' w' td,oU w0 E.G n β A [] bh a' w'∧Steps P (lone (b.atR a eh) cs w) (y2 ro b cs a' td w'):=fun nZ h1 h2=>by
   obtain⟨a',w',td,hp,hs⟩:=Co hc jW bZ aP ms nZ fr A bh β a w h1 hf inv zi gQ;exact⟨a',w',td,hp,.head h2 hs⟩
  have region:∀id ops dr k fj,eh= .code (.region id ⟨ops⟩ dr)::k→(Code.region id ⟨ops⟩ dr).wpIn (jC b.roundOf) 0 P (fun e a' w'=>e= .normal∧oU w0 E.G n β A a.defers fj a' w') a w→(∀p∈fj,∃r,vG E sq call n bL ro aP ms k p.1 p.2=some r∧∀c∈r,c∈bh)→
   ∃a' w' td,oU w0 E.G n β A [] bh a' w'∧Steps P (lone (b.atR a eh) cs w) (y2 ro b cs a' td w'):=fun id ops dr k fj ht Uy fE=>by
   subst ht;obtain⟨e,a1,w1,⟨rfl,p,hp,aO,g1,g2,g3,g4,g5⟩,TE⟩:=Uy b k cs rfl trivial (Z2 _ _);obtain⟨r,ep,bK⟩:=fE p hp;have aR:=inv.fY g3;obtain⟨a',w',td,GH,hs⟩:=Co hc jW bZ aP ms k p.1 p.2 r aO a1 w1 ep g1 g2 (g5▸zi.mono aR) (gQ.mono aR);exact⟨a',w',td,GH.mono g3 g4 bK,Steps.trans (StepsIn.steps TE) hs⟩
  have fin:∀td,ro=none→DJ E none ms fr A=some bh→step P (lone (b.atR a eh) cs w)= .next (lone {b.atR a td with mode:= .returning} cs w)→
   ∃a' w' td,oU w0 E.G n β A [] bh a' w'∧Steps P (lone (b.atR a eh) cs w) (y2 ro b cs a' td w'):=fun td hrn he bc=>by
   subst hrn;unfold DJ at he;simp only at he;split at he
   ·rename_i A' mP;cases he;obtain⟨w',h1,h2,h3⟩:=Xp (P:=P) (w0:=w0) ms a.defers A A' w {b.atR a td with mode:= .returning} cs mP zi inv (by simp) rfl;refine⟨⟨a.tmps,[]⟩,w',td,⟨_,xn,β,hf,h1,ah.ca _ _,by rw[h2];exact xk _,rfl⟩,.head bc ?_⟩;exact h3
   ·cases he
  have Kd:∀(j:Option Code) (L:Nat),ro=some L→JG E (aa4 j) L fr A=some bh→
   (∀c bu l v w',cs=c::bu→b.roundOf=some l→b.kind= .normal→(Instr.endRound l j).run P w= .ok v w'→step P (lone (b.atR a eh) cs w)= .next (lone (c.finish v) bu w'))→
   ∃a' w' td,oU w0 E.G n β A [] bh a' w'∧Steps P (lone (b.atR a eh) cs w) (y2 ro b cs a' td w'):=fun j L hr h' bc=>by
   rw[hr] at gQ;obtain⟨hk,c,bu,hcc⟩:=bZ (by rw[hr];rfl);unfold JG at h';cases pa:b.roundOf with
   |none=>rw[pa] at gQ;exact gQ.elim
   |some l=>
    rw[pa] at gQ;obtain⟨lb,gS,Tv⟩:=gQ;split at h'
    ·rename_i t m ps x y es ex r ty hg;replace h':=aB h';rcases h' with⟨hG,h'⟩|⟨_,h'⟩
     ·cases h';obtain⟨rec,k1,k2,k3,k4,k5,k6,k7,k8⟩:=inv.cont L _ lb hg gS;subst Tv;have yV:=run_endRound (P:=P) j k1;have AS:=inv.write (w':=w.putObj lb.b (.loop {rec with state:=if j.isNone then .ready else .done,pending:=j})) L lb _ ⟨.loop (aa4 j) t m ps x y,es,ex,r,ty⟩ hg gS (xh hG) (Iy w lb.b _) (by simp)
       ⟨{rec with state:=if j.isNone then .ready else .done,pending:=j},World.putObj_heap_same (inv.loc L lb gS).1,by cases j<;>rfl,by cases j<;>rfl,k4,k5,k6,k7,k8⟩
      refine⟨⟨a.tmps,[]⟩,_,[],⟨_,xn,β,hf,AS,ah.ca _ _,xk _,rfl⟩,.one ?_⟩;rw[bc c bu _ _ _ hcc pa hk yV,hr,hcc];have hv:MI (w.putObj lb.b (.loop {rec with state:=if j.isNone then .ready else .done,pending:=j})) b.roundOf= .bool j.isNone:=by
       rw[pa];unfold MI;simp only;rw[World.putObj_heap_same (inv.loc L lb gS).1]
      unfold y2;simp only [hv]
     ·cases h'
    ·cases h'
  split at h'
  ·cases hr:ro with
   |none=>
    rw[hr] at h';have hb:b.roundOf=none:=by rw[hr] at gQ;unfold yJ at gQ;cases pa:b.roundOf with|none=>rfl|some l=>rw[pa] at gQ;exact gQ.elim
    rw[←hr];exact fin [] hr h' (stepR_end hb)
   |some L=>
    rw[hr] at h';rw[←hr];refine Kd none L hr h' (fun c bu l v w' e1 e2 e3 e4=> ?_);subst e1;exact stepR_round_end e2 e3 e4
  ·rename_i k;split at h'
   ·have hb:b.roundOf=none:=by unfold yJ at gQ;cases pa:b.roundOf with|none=>rfl|some l=>rw[pa] at gQ;exact gQ.elim
    exact fin _ rfl h' (stepR_ret hb)
   ·rename_i L;refine Kd (some .ret) L rfl h' (fun c bu l v w' e1 e2 e3 e4=> ?_);subst e1;exact stepR_round_ret e2 e3 e4
  ·exact go _ h' stepR_skip
  ·exact go _ h' stepR_label
  ·exact go _ h' stepR_seq
  ·rename_i c x y k;have hv:=ky (a:=a) inv hf c;split at h'
   ·rename_i t ht;rw[ht] at hv;generalize wE:a.eval c=cv at hv;cases hv;refine go _ h' ?_;have:=stepR_cond (P:=P) (b:=b) (k:=k) (cs:=cs) (w:=w) (x:=x) (y:=y) wE;rw[this];cases t<;>rfl
   ·cases h'
  ·exact go _ h' stepR_block
  ·exact go _ h' stepR_loop
  ·exact go _ h' VH
  ·split at h'
   ·rename_i hk;exact go _ h' (stepR_exit hk)
   ·rename_i id k x hx;unfold yE at h';split at h'
    ·cases h'
    ·rename_i L;refine Kd (some (.exit id)) L rfl h' (fun c bu l v w' e1 e2 e3 e4=> ?_);subst e1;exact stepR_round_exit e2 e3 hx e4
  ·split at h'
   ·rename_i hk;exact go _ h' (stepR_goto hk)
   ·rename_i id k x hx;unfold yE at h';split at h'
    ·cases h'
    ·rename_i L;refine Kd (some (.goto id)) L rfl h' (fun c bu l v w' e1 e2 e3 e4=> ?_);subst e1;exact stepR_round_goto e2 e3 hx e4
  ·rename_i id ops k;obtain⟨fj,h1,h2⟩:=uO h';refine region id ops false k fj rfl ?_ h2;exact wpIn_region_list (Cu ok aY hc ops fr A fj β a w _ h1 hf inv rfl (fun a' w' hp=>⟨rfl,hp⟩))
  ·rename_i id ops k;obtain⟨fj,h1,h2⟩:=uO h';exact region id ops true k fj rfl (jW _ w0 ops fr A fj β a w id h1 hf inv) h2
  ·
   rename_i f ps x y k;split at h';rotate_left
   ·cases h'
   have hb:b.roundOf=none:=by unfold yJ at gQ;cases pa:b.roundOf with|none=>rfl|some l=>rw[pa] at gQ;exact gQ.elim
   unfold P6 at h';split at h';rotate_left
   ·cases h'
   rename_i g args wE;replace h':=aB h';rcases h' with⟨hG,h'⟩|⟨_,h'⟩;rotate_left
   ·cases h'
   have nS:=xh hG;obtain⟨fj,fy,bF⟩:=uO h';have n1:=inv.new ⟨.wG,0,true,false,0⟩ (.deferred (some [])) ⟨w.heap.size,0,0,0⟩ rfl rfl;have so:=inv.fY n1.2;have n2:=n1.1.new ⟨.loop .ready fr n ps x y,0,true,false,0⟩ (.loop {state:= .ready,pending:=none,fn:=b.fn,tmps:=a.tmps,params:=⟨ps⟩,assign:=x,body:=y,defers:=w.heap.size}) ⟨(w.alloc (.deferred (some []))).heap.size,0,0,0⟩ rfl
    ⟨_,rfl,rfl,rfl,rfl,rfl,rfl,hf.1,fun t=>((hf.2 t).mono so).mono (n1.1.fY (ah.uQ _ _ _))⟩
   have dh5:=n1.1.fY n2.2;have zx:(A.add ⟨.wG,0,true,false,0⟩).next=A.next+1:=rfl;rw[zx] at n2;generalize Th:(ah.put (ah.put β A.next ⟨w.heap.size,0,0,0⟩) (A.next+1) ⟨(w.alloc (.deferred (some []))).heap.size,0,0,0⟩)=cT at*;have hL:cT (A.next+1)=some ⟨(w.alloc (.deferred (some []))).heap.size,0,0,0⟩:=by rw[←Th];exact jy _ _ _
   have hD:cT A.next=some ⟨w.heap.size,0,0,0⟩:=by rw[←Th];rw[ah.tF,if_neg (by omega)];exact jy _ _ _
   have aH8:β.le cT:=ah.le_trans so (by rw[←Th];exact dh5);have Mz:β.grow cT A.next:=ah.iB n1.2 n2.2 (by omega);have aG4:(w.alloc (.deferred (some []))).heap.size=w.heap.size+1:=by simp
   obtain⟨d,args',uz,ig,il⟩:=bn1 (P:=P) (β:=cT) (w:=(w.alloc (.deferred (some []))).alloc (.loop {state:= .ready,pending:=none,fn:=b.fn,tmps:=a.tmps,params:=⟨ps⟩,assign:=x,body:=y,defers:=w.heap.size})) ok wE ((ky (a:=a) inv hf f).mono aH8) (ai.yield (β:=cT) (A.next+1) _ hL);simp only [aG4] at uz;have li:=hc w0 (.fn g) args _ fj cT _ args' fy n2.1 il;have he:(Instr.enterLoop b.fn a.tmps ⟨ps⟩ x y b.roundOf).run P w= .ok (w.heap.size+1,[{target:= .collected w.heap.size,args:= #[]}]) ((w.alloc (.deferred (some []))).alloc (.loop {state:= .ready,pending:=none,fn:=b.fn,tmps:=a.tmps,params:=⟨ps⟩,assign:=x,body:=y,defers:=w.heap.size})):=by
    rw[hb];exact run_enterLoop_outer _ _ _ _ _
   have bc:=stepR_rangeFunc (P:=P) (b:=b) (a:=a) (k:=k) (cs:=cs) (w:=w) (g:=f) (ps:=⟨ps⟩) (assign:=x) (body:=y) (d:=d) he (by simp[resolve];exact uz) ig;obtain⟨e,w3,frX,⟨p,hp,gu,v3,rfl,UD,AR,Hm,ww⟩,bF0,nP,bE6⟩:=li (b.atR {a with defers:=[{target:= .collected w.heap.size,args:= #[]}]++a.defers} (.inRangeFunc (w.heap.size+1)::k)::cs);obtain⟨r,ep,bK⟩:=bF p hp;have Bx:((A.add ⟨.wG,0,true,false,0⟩).add ⟨.loop .ready fr n ps x y,0,true,false,0⟩).next=A.next+2:=rfl;rw[Bx] at Hm ww;have NO:gu (A.next+1)=some ⟨(w.alloc (.deferred (some []))).heap.size,0,0,0⟩:=(Hm.f _ (by omega)).trans hL;have hD3:gu A.next=some ⟨w.heap.size,0,0,0⟩:=(Hm.f _ (by omega)).trans hD;rw[aG4] at NO;have dh4:cT.le gu:=n2.1.fY Hm;have aR:β.le gu:=ah.le_trans aH8 dh4;have lM:β.grow gu A.next:=ah.iB Mz Hm (by omega);have Y6:∀(j:Option Code) (rec:Loop) ao,p.2.get (A.next+1)=some ao→ao.still=false→w3.heap[w.heap.size+1]? =some (.loop rec)→rec.state≠ .busy→rec.pending=j→
    vG E sq call n bL none aP (A.next::ms) ((j.map Item.code).toList++k) fr (p.2.put (A.next+1) none)=some r→
    ∃a' w' td,oU w0 E.G n β A [] bh a' w'∧Steps P (lone (b.atR a (.code (.rangeFunc f ⟨ps⟩ x y)::k)) cs w) (y2 none b cs a' td w'):=fun j rec ao uy zf k1 k2 k3 ep=>by
    have de0:=AR.forget (w':=w3.putObj (w.heap.size+1) (.loop {rec with state:= .exhausted})) (A.next+1) _ _ uy NO (by omega) (Iy w3 _ _) (by simp) zf;have co4:=run_endLoop (P:=P) k1 k2;have yV:(Instr.endLoop (w.heap.size+1)).run P w3= .ok j (w3.putObj (w.heap.size+1) (.loop {rec with state:= .exhausted})):=by
     rw[co4,k3]
    obtain⟨a',w',td,GH,hs⟩:=Co hc jW bZ aP (A.next::ms) ((j.map Item.code).toList++k) fr (p.2.put (A.next+1) none) r gu {a with defers:=[{target:= .collected w.heap.size,args:= #[]}]++a.defers} _ ep (hf.mono aR) de0 ⟨⟨_,hD3,rfl⟩,zi.mono aR⟩ (gQ.mono aR);refine⟨a',w',td,GH.mono lM (xH (by omega) ww) bK,.head bc (Steps.trans bF0 (.head ?_ (.head (stepR_endRangeFunc yV) hs)))⟩;rw[←finish_atR_inRangeFunc (w.heap.size+1) v3];exact step_leave_returned bE6
   split at ep
   ·rename_i uy;obtain⟨rec,k1,k2,k3,k4⟩:=AR.cont (A.next+1) _ _ uy NO;exact Y6 none rec _ uy rfl k1 (by rw[k2];simp) k3 ep
   ·rename_i j3 _ _ _ _ _ _ _ _ _ uy;obtain⟨rec,k1,k2,k3,k4⟩:=AR.cont (A.next+1) _ _ uy NO;exact Y6 (some j3) rec _ uy rfl k1 (by rw[k2];simp) k3 ep
   ·cases ep
  ·
   rename_i k;split at h'
   ·cases h'
   rename_i L;cases pa:b.roundOf with
   |none=>rw[pa] at gQ;exact gQ.elim
   |some l=>
    have de9:=gQ;rw[pa] at gQ;obtain⟨lb,gS,Tv⟩:=gQ;split at h'
    ·rename_i t m ps x y es ex r ty hg;replace h':=aB h';rcases h' with⟨hG,h'⟩|⟨_,h'⟩
     ·obtain⟨rec,k1,k2,k3,k4,k5,k6,k7,k8⟩:=inv.cont L _ lb hg gS;subst Tv;have dj4:=run_beginRound (P:=P) k1 k2;have AS:=inv.write (w':=w.putObj lb.b (.loop {rec with state:= .busy})) L lb _ ⟨.loop .busy t m ps x y,es,ex,r,ty⟩ hg gS (xh hG) (Iy w lb.b _) (by simp)
       ⟨{rec with state:= .busy},World.putObj_heap_same (inv.loc L lb gS).1,rfl,k3,k4,k5,k6,k7,k8⟩
      obtain⟨a',w',td,hp,hs⟩:=Co hc jW bZ aP ms k fr _ bh β a _ h' hf AS zi de9;exact⟨a',w',td,hp,.head (stepR_beginRound pa dj4) hs⟩
     ·cases h'
    ·cases h'
  ·exact go _ h' stepR_inBlock
  ·exact go _ h' Vs
  ·exact go _ h' stepR_inLoop
  ·cases h'
theorem Yh{ρ:Type}{n:Nat}{β:ah}:∀(l l':List xM) (i:Nat) (fr:Fr) (tmps:Array xM) (k:Fr→ρ),aT β l l'→i+l.length≤n→bX β n (fr.get J) tmps→
 ∃cP yj,LK l i fr k=k cP∧bX β n (cP.get J) yj∧(∀j,yj[j]? =if i≤j∧j<i+l.length then l'[j - i]? else tmps[j]?)
 |[],l',i,fr,tmps,k,hl,hn,hf=>⟨fr,tmps,rfl,hf,fun j=>by rw[if_neg (fun e=>by simp at e;omega)]⟩
 |v::l,l',i,fr,tmps,k,hl,hn,hf=>by
  obtain⟨v',r,rfl,hv,hr⟩:=hl.kS;rw[xi] at hn;obtain⟨cP,yj,h1,h2,h3⟩:=Yh l r (i+1) (fr.set i v) (tmps.setIfInBounds i v') k hr (by omega) (hf.put (by omega) hv);refine⟨cP,yj,?_,h2,fun j=> ?_⟩
  ·show fr.kB i v (fun fr=>LK l (i+1) fr k)=_;rw[T.Jb];exact h1
  ·rw[h3 j,xi];by_cases c1:i+1≤j∧j<i+1+l.length
   ·rw[if_pos c1,if_pos (by omega),show j - i=(j - (i+1))+1 by omega,List.getElem?_cons_succ]
   ·rw[if_neg c1];by_cases c2:i=j
    ·subst c2;rw[if_pos (by omega),Nat.sub_self,List.getElem?_cons_zero];have:i<tmps.size:=by rw[hf.1];omega
     simp[this]
    ·rw[if_neg (by omega),Array.getElem?_setIfInBounds_ne c2]
end
section
variable{P:Program}{E:av}(ok:E.Ok P){sq:List (Nat×List xO)}(aY:E.Seq P sq){w0 w:World}
def JD(tmps:Array xM)(r:ResultVar):Sem xM:=match r with
 | .tmp t=>pure (tmps.getD t undef)
 | .cell a t=>do loadVar t (←asAddr (tmps.getD a undef))
include ok in
theorem Ph{β:ah}{A:AW}(inv:Inv w0 E.G β A w){n:Nat}{fr:Fr}{tmps:Array xM}(hf:bX β n (fr.get J) tmps):∀(l:List ResultVar) (vs:List xM),Si E fr A l=some vs→∃oZ,(l.mapM (JD tmps)).run P w= .ok oZ w∧aT β vs oZ
 |[],vs,h=>by cases h;exact⟨[],by simp,aT.nil β⟩
 |r::l,vs,h=>by
  have h':(match(match r with| .tmp t=>some (fr.get J t)| .cell a t=>yn E A t (fr.get J a)),Si E fr A l with
   |some v,some vs=>some (v::vs)
   |_,_=>none)=some vs:=h
  clear h;split at h'
  ·rename_i v vs2 hv iK;cases h';obtain⟨oZ,h1,h2⟩:=Ph inv hf l vs2 iK;have key:∃v',(JD tmps r).run P w= .ok v' w∧ai β v v':=by
    cases r with
    |tmp t=>cases hv;exact⟨_,by simp[JD],hf.2 t⟩
    |cell a t=>
     have cx:yn E A t (fr.get J a)=some v:=hv;have hx:=hf.2 a;obtain⟨v',e1,e2⟩:=XT ok inv cx hx;unfold yn at cx;split at cx
     ·rename_i B o hq;rw[hq] at hx;generalize gk:tmps.getD a undef=x at*;cases hx with
      |ptr _ _ lc cF=>
       refine⟨v',?_,e2⟩;simp[Instr.loadAt,Instr.sureAddr] at e1;show(do loadVar t (←asAddr (tmps.getD a undef)):Sem xM).run P w= .ok v' w;rw[gk];simp[asAddr,e1]
     ·cases cx
   obtain⟨v',e1,e2⟩:=key;exact⟨v'::oZ,by simp[List.mapM_cons,e1,h1],h2.cons e2⟩
  ·cases h'
include ok in
theorem Yy{β:ah}{A:AW}(inv:Inv w0 E.G β A w){n:Nat}{fr:Fr}{tmps:Array xM}(hf:bX β n (fr.get J) tmps){fn:Func}{rs:List ResultVar}(hr:fn.results=⟨rs⟩){v:xM}(h:G7 E fr A rs=some v):
 ∃v',(results fn tmps).run P w= .ok v' w∧ai β v v':=by
 have qK:results fn tmps=(do let vs←(⟨rs⟩:Array ResultVar).mapM (JD tmps);pure (if h:vs.size=1 then vs[0] else .tuple vs)):=by
  unfold results;rw[hr];rfl
 unfold G7 at h;split at h
 ·rename_i v0 hl;cases h;obtain⟨oZ,h1,h2⟩:=Ph ok inv hf rs _ hl;obtain⟨v',l',rfl,hv,dW⟩:=h2.kS;have:=dW.mV;subst this;refine⟨v',?_,hv⟩;rw[qK];simp[Array.mapM_eq_mapM_toList,h1]
 ·rename_i vs bq hl;cases h;obtain⟨oZ,h1,h2⟩:=Ph ok inv hf rs _ hl;refine⟨.tuple ⟨oZ⟩,?_,ai.p8 h2⟩;rw[qK];have hn: ¬oZ.length=1:=fun e=>by
   rw[←h2.1] at e;cases vs with
   |nil=>cases e
   |cons x t=>
    cases t with
    |nil=>exact bq x rfl
    |cons _ _=>simp at e
  simp[Array.mapM_eq_mapM_toList,h1,hn]
 ·cases h
theorem XC{ρ:Type}{n:Nat}{β:ah}:∀(ps:List Nat) (l l':List xM) (fr:Fr) (tmps:Array xM) (k:Fr→ρ),aT β l l'→(∀t∈ps,t<n)→bX β n (fr.get J) tmps→
 ∃cP,J3 ps l fr k=k cP∧bX β n (cP.get J) ((ps.zip l').foldl (fun tmps (p:Nat×xM)=>tmps.setIfInBounds p.1 p.2) tmps)
 |[],l,l',fr,tmps,k,hl,hn,hf=>⟨fr,rfl,by simpa using hf⟩
 |t::ps,[],l',fr,tmps,k,hl,hn,hf=>by rw[hl.mV];exact⟨fr,rfl,by simpa using hf⟩
 |t::ps,v::l,l',fr,tmps,k,hl,hn,hf=>by
  obtain⟨v',r,rfl,hv,hr⟩:=hl.kS;obtain⟨cP,h1,h2⟩:=XC ps l r (fr.set t v) (tmps.setIfInBounds t v') k hr (fun x hx=>hn x (xo _ hx)) (hf.put (hn t xn) hv);refine⟨cP,?_,by simpa using h2⟩;show fr.kB t v (fun fr=>J3 ps l fr k)=_;rw[T.Jb];exact h1
include ok aY in
theorem W9{bL:(cL→List xM→AW→aZ xM)→Nat→List Oper→Fr→AW→aZ Fr}(jW:∀call n,fN P E call→tE P E n (bL call n)){hR:cL→List xM→AW→aZ xM}(uu:fN P E hR)(aP:Nat):∀depth,fN P E (qC E sq bL hR aP depth)
 |0=>fun w0 t args A bh β w args' h=>by cases h
 |depth+1=>fun w0 t args A bh β w args' h inv il=>by
  have ih:=W9 jW uu aP depth;cases hq:hR t args A with
  |some o=>
   have ho:o=bh:=by
    have:(match hR t args A with|some o=>some o|none=>_)=some bh:=h;rw[hq] at this;exact xC this
   subst ho;exact uu w0 t args A o β w args' hq inv il
  |none=>
  cases t with
  |fn f=>
   have h':(match E.fn.get none f with
    |some ⟨_,_,_,_,_,_,nt,⟨rs⟩,some c,_,_,_,_,_,_,_⟩=>
     bs (Nat.ble (bE args) nt) (LK args 0 (T.full undef (Nat.add (Nat.log2 (Nat.add nt 1)) 1)) (fun fr=>
      j7 (vG E sq (qC E sq bL hR aP depth) nt (bL (qC E sq bL hR aP depth) nt) none aP [] [.code c] fr A) (fun p=>match G7 E p.1 p.2 rs with|some v=>some [(v,p.2)]|none=>none))) none
    |_=>none)=some bh:=by
    rw[←h];show _=(match hR (.fn f) args A with|some o=>some o|none=>_);rw[hq];rfl
   clear h;split at h'
   ·rename_i nm Up ta ps rt nf nt rs c nr ou fi el ln me tn nP;replace h':=aB h';rcases h' with⟨aR,h'⟩|⟨_,h'⟩
    ·have vS:args.length≤nt:=by have:=xh aR;rw[dg] at this;exact this
     obtain⟨Dy,_⟩:=ok.fn f _ nP;have aF:=il.1;have hf0:bX β nt (T.get J (T.full undef (Nat.add (Nat.log2 (Nat.add nt 1)) 1))) (Array.replicate nt undef):=by
      refine⟨by simp,fun t=> ?_⟩;have:(Array.replicate nt undef).getD t undef=undef:=by
       by_cases ht:t<nt
       ·simp[ht]
       ·simp[ht]
      rw[this];rcases T.BK undef J (Nat.add (Nat.log2 (Nat.add nt 1)) 1) t with e|e
      ·rw[e];exact ai.undef
      ·rw[e];exact .j9 _
     obtain⟨cP,yj,hk,UZ,UF⟩:=Yh args args' 0 _ _ _ il (by omega) hf0;rw[hk] at h';have cm2:yj=(⟨args'⟩:Array xM)++Array.replicate (nt - args'.length) undef:=by
      apply Array.ext_getElem?;intro j;rw[UF j];by_cases hj:j<args'.length
      ·rw[if_pos (by omega),Array.getElem?_append_left (by simpa using hj)];simp
      ·rw[if_neg (by omega),Array.getElem?_append_right (by simp;omega)];simp only [List.size_toArray,Array.getElem?_replicate];by_cases fG:j<nt
       ·rw[if_pos fG,if_pos (by omega)]
       ·rw[if_neg fG,if_neg (by omega)]
     obtain⟨fj,fy,bF⟩:=uO h';intro cs
     let b:Frame:={(default:Frame) with fn:=f,kind:= .normal,roundOf:=none}
     have Qg:Frame.enter P f ⟨args'⟩ .normal=b.atR {tmps:=yj,defers:=[]} [.code c]:=by
      simp[Frame.enter,Frame.atR,Dy,b,cm2]
     obtain⟨a',w',td,⟨p,hp,ak,g1,g2,g3,g4,g5⟩,Fx⟩:=Co (b:=b) (cs:=cs) (ro:=none) ok aY ih (jW _ nt ih) (fun h=>by cases h) aP [] [.code c] cP A fj β {tmps:=yj,defers:=[]} w fy UZ inv trivial trivial;obtain⟨r,ep,bK⟩:=bF p hp;split at ep
     ·rename_i v qK;cases ep;obtain⟨v',mN,cx⟩:=Yy (fn:=⟨nm,Up,ta,ps,rt,nf,nt,⟨rs⟩,some c,nr,ou,fi,el,ln,me,tn⟩) ok g2 g1 rfl qK;refine⟨.returned v',w',{b.atR a' td with mode:= .returning},⟨(v,p.2),bK _ xn,ak,v',rfl,cx,g2,g3,g4⟩,?_,rfl,rfl,g5,rfl,_,Dy,mN⟩;show Steps P (lone (Frame.enter P f ⟨args'⟩ .normal) cs w) _;rw[Qg];exact Fx
     ·cases ep
    ·cases h'
   ·cases h'
  |dy v=>
   exfalso;have h':(match hR (.dy v) args A with|some o=>some o|none=>none)=some bh:=h;rw[hq] at h';cases h'
  |rd L=>
   intro l hl;have h':(match A.get L with
    |some ⟨.loop .ready fr n ps a b,_,_,_,_⟩=>
     bs (Nat.beq (bE args) (bE ps)&&eo (fun t=>Nat.blt t n) ps) (J3 ps args fr (fun fr=>
      j7 (vG E sq (qC E sq bL hR aP depth) n (bL (qC E sq bL hR aP depth) n) (some L) aP [] [.code a,.beginRound,.code b] fr A) (fun p=>P5 L p.2))) none
    |_=>none)=some bh:=by
    rw[←h];show _=(match hR (.rd L) args A with|some o=>some o|none=>_);rw[hq];rfl
   clear h;split at h'
   ·rename_i fr n ps x y es ex r ty hg;replace h':=aB h';rcases h' with⟨nR,h'⟩|⟨_,h'⟩
    ·rw[xf] at nR;have aF:args.length=ps.length:=by have:=xb nR.1;rw[dg,dg] at this;exact this
     have lK:∀t∈ps,t<n:=fun t ht=>xh (mq _ _ nR.2 t ht)
     obtain⟨rec,k1,k2,k3,k4,k5,k6,k7,k8⟩:=inv.cont L _ l hg hl;obtain⟨cP,hk,UZ⟩:=XC ps args args' fr rec.tmps _ il lK ⟨k7,k8⟩;rw[hk] at h';obtain⟨fj,fy,bF⟩:=uO h';have aU:(⟨args'⟩:Array xM).size=rec.params.size:=by rw[k4];simp[←il.1,aF]
     refine⟨rec.fn,_,rec.assign,rec.body,run_yield k1 aU,trivial,fun c cs _=> ?_⟩
     let b:Frame:={(default:Frame) with fn:=rec.fn,kind:= .normal,roundOf:=some l.b}
     have UF:(rec.params.zip ⟨args'⟩).foldl (fun tmps (p:Nat×xM)=>tmps.setIfInBounds p.1 p.2) rec.tmps=(ps.zip args').foldl (fun tmps (p:Nat×xM)=>tmps.setIfInBounds p.1 p.2) rec.tmps:=by
      rw[k4];simp
     have sW:Frame.round l.b rec.fn ((rec.params.zip ⟨args'⟩).foldl (fun tmps (p:Nat×xM)=>tmps.setIfInBounds p.1 p.2) rec.tmps) rec.assign rec.body .normal=b.atR {tmps:=(ps.zip args').foldl (fun tmps (p:Nat×xM)=>tmps.setIfInBounds p.1 p.2) rec.tmps,defers:=[]} [.code x,.beginRound,.code y]:=by
      rw[UF,k5,k6];simp[Frame.round,Frame.atR,b]
     obtain⟨a',w',td,⟨p,hp,ak,g1,g2,g3,g4,g5⟩,Fx⟩:=Co (b:=b) (cs:=c::cs) (ro:=some L) ok aY ih (jW _ n ih) (fun _=>⟨rfl,c,cs,rfl⟩) aP [] [.code x,.beginRound,.code y] cP A fj β {tmps:=(ps.zip args').foldl (fun tmps (p:Nat×xM)=>tmps.setIfInBounds p.1 p.2) rec.tmps,defers:=[]} w fy UZ inv trivial ⟨l,hl,rfl⟩;obtain⟨r,ep,bK⟩:=bF p hp;have dW:ak L=some l:=(g3.f L (inv.gU L l hl)).trans hl;obtain⟨v,hv,yV⟩:∃v,r=[(.bool v,p.2)]∧MI w' b.roundOf= .bool v:=by
      unfold P5 at ep;split at ep
      ·rename_i Em;obtain⟨cQ9,e1,_,e3,_⟩:=g2.cont L _ l Em dW;cases ep;exact⟨true,rfl,by show(match w'.heap[l.b]? with|some (.loop rec)=>Value.bool rec.pending.isNone|_=> .bool true)=_;rw[e1];simp[e3]⟩
      ·rename_i Em;obtain⟨cQ9,e1,_,e3,_⟩:=g2.cont L _ l Em dW;cases ep;exact⟨false,rfl,by show(match w'.heap[l.b]? with|some (.loop rec)=>Value.bool rec.pending.isNone|_=> .bool true)=_;rw[e1];simp[e3]⟩
      ·cases ep
     subst hv;refine⟨.returned (.bool v),w',⟨(.bool v,p.2),bK _ xn,ak,.bool v,rfl,.bool v,g2,g3,g4⟩,?_⟩;unfold y2 at Fx;simp only [yV] at Fx;refine comesIn_wide.2 ?_;show Steps P (lone (Frame.round l.b rec.fn _ rec.assign rec.body .normal) (c::cs) w) _;refine Eq.mp ?_ Fx;rw[←sW]
    ·cases h'
   ·cases h'
end
def bit(m i:Nat):Bool:=Nat.beq (Nat.mod (Nat.div m (Nat.pow 2 i)) 2) 1
theorem tD(m i:Nat):bit m i=m.testBit i:=by
 unfold bit;rw[l4,Nat.testBit_eq_decide_div_mod_eq];rfl
def R9(g:Nat→Nat)(i m:Nat):Nat→Nat:=fun k=>bs (Nat.beq k i) m (g k)
def AK(g:Nat→Nat)(l:List Edge):Nat:=
 List.rec (motive:=fun _=>Nat) 0 (fun e _ s=>bs (Region.binds .any e) (Nat.lor s (Nat.lor (Nat.pow 2 e.on) (g e.on))) s) l
def bfF(ops:List Oper):Nat→(Nat→Nat)→(Nat→Nat):=
 List.rec (motive:=fun _=>Nat→(Nat→Nat)→(Nat→Nat)) (fun _ g=>g) (fun o _ ih i g=>ih (Nat.add i 1) (R9 g i (AK g o.after.toList))) ops
def je(ops:List Oper):Nat→Nat:=bfF ops 0 (fun _=>0)
def zB(ops:List Oper)(D:Nat→Prop):Prop:=∀j oj,ops[j]? =some oj→D j→∀e∈oj.after.toList,Region.binds .any e=true→D e.on
theorem WR(D:Nat→Prop)(g:Nat→Nat)(hg:∀k j,(g k).testBit j=true→D k→D j):∀(l:List Edge),(∀e∈l,Region.binds .any e=true→D e.on)→∀j,(AK g l).testBit j=true→D j
 |[],_,j,h=>by rw[show AK g []=0 from rfl,Nat.zero_testBit] at h;cases h
 |e::l,hl,j,h=>by
  have ih:=WR D g hg l (fun x hx=>hl x (xo _ hx)) j;have h':(bs (Region.binds .any e) (Nat.lor (AK g l) (Nat.lor (Nat.pow 2 e.on) (g e.on))) (AK g l)).testBit j=true:=h;cases hb:Region.binds .any e with
  |false=>rw[hb,gC] at h';exact ih h'
  |true=>
   rw[hb,ek] at h';have h2:((AK g l)|||(2^e.on|||g e.on)).testBit j=true:=h';rw[Nat.testBit_or,Nat.testBit_or,Bool.or_eq_true,Bool.or_eq_true] at h2;have hD:=hl e xn hb;rcases h2 with h2|h2|h2
   ·exact ih h2
   ·rw[Nat.testBit_two_pow] at h2;have:e.on=j:=by simpa using h2
    exact this▸hD
   ·exact hg e.on j h2 hD
theorem Xe{ops:List Oper}{D:Nat→Prop}(hD:zB ops D):∀(l:List Oper) (i:Nat) (g:Nat→Nat),(∀k,l[k]? =ops[i+k]?)→(∀k j,(g k).testBit j=true→D k→D j)→∀k j,(bfF l i g k).testBit j=true→D k→D j
 |[],_,_,_,hg=>hg
 |o::l,i,g,hl,hg=>by
  refine Xe hD l (i+1) (R9 g i (AK g o.after.toList)) (fun k=> ?_) (fun k j h hk=> ?_)
  ·have:=hl (k+1);rw[List.getElem?_cons_succ] at this;rw[this]
   congr 1
   omega
  ·unfold R9 at h;rw[l4] at h;by_cases gj:k=i
   ·rw[decide_eq_true gj,ek] at h;subst gj;have ho:ops[k]? =some o:=by have:=hl 0;simpa using this.symm
    exact WR D g hg _ (hD k o ho hk) j h
   ·rw[decide_eq_false gj,gC] at h;exact hg k j h hk
theorem Ow{ops:List Oper}{D:Nat→Prop}(hD:zB ops D){k j:Nat}(h:bit (je ops k) j=true)(hk:D k):D j:=by
 rw[tD] at h;exact Xe hD ops 0 (fun _=>0) (fun k=>by simp) (fun k j h=>by rw[Nat.zero_testBit] at h;cases h) k j h hk
theorem EP{ops:List Oper}{D:Nat→Prop}(hD:zB ops D){k j:Nat}{o:Oper}(ho:ops[k]? =some o)(hr:∀e∈o.after.toList,Region.binds .any e=true→D e.on)(h:bit (je ops k) j=true):D j∨j=k:=by
 have hD':zB ops (fun x=>D x∨x=k):=fun i oi hi hd e he hb=>by
  rcases hd with hd|rfl
  ·exact .inl (hD i oi hi hd e he hb)
  ·rw[ho] at hi;cases hi;exact .inl (hr e he hb)
 exact Ow hD' h (.inr rfl)
structure Tr where
 i:Nat
 dst:Option Tmp
 v:xM
def gM(g:Gt)(dst:Option Tmp)(v:xM):Gt:=match dst with|none=>g|some d=>fun t=>bs (Nat.beq t d) v (g t)
theorem BU(g:Gt)(dst:Option Tmp)(v:xM)(t:Nat):gM g dst v t=if dst=some t then v else g t:=by
 cases dst with
 |none=>rw[if_neg (by simp)];rfl
 |some d=>
  show bs (Nat.beq t d) v (g t)=_;rw[l4];by_cases h:t=d
  ·subst h;rw[decide_eq_true rfl,if_pos rfl];rfl
  ·rw[decide_eq_false h,if_neg (fun e=>h (xC e).symm)];rfl
open Classical in
def gv(D:Nat→Prop):List Tr→Gt→Gt
 |[],g0=>g0
 |x::tr,g0=>if D x.i then gM (gv D tr g0) x.dst x.v else gv D tr g0
theorem uW(D:Nat→Prop)(g0:Gt)(t:Nat):∀tr:List Tr,(∃x∈tr,D x.i∧x.dst=some t∧gv D tr g0 t=x.v)∨((∀x∈tr,D x.i→x.dst≠some t)∧gv D tr g0 t=g0 t)
 |[]=> .inr ⟨fun x hx=>(by cases hx),rfl⟩
 |x::tr=>by
  by_cases hD:D x.i
  ·have e:gv D (x::tr) g0 t=gM (gv D tr g0) x.dst x.v t:=by rw[gv,if_pos hD]
   rw[e,BU];by_cases hd:x.dst=some t
   ·rw[if_pos hd];exact .inl ⟨x,xn,hD,hd,rfl⟩
   ·rw[if_neg hd];rcases uW D g0 t tr with⟨y,hy,a,b,c⟩|⟨a,b⟩
    ·exact .inl ⟨y,xo _ hy,a,b,c⟩
    ·refine .inr ⟨fun y hy zw=> ?_,b⟩;cases hy with
     |head=>exact hd
     |tail _ hy=>exact a y hy zw
  ·have e:gv D (x::tr) g0 t=gv D tr g0 t:=by rw[gv,if_neg hD]
   rw[e];rcases uW D g0 t tr with⟨y,hy,a,b,c⟩|⟨a,b⟩
   ·exact .inl ⟨y,xo _ hy,a,b,c⟩
   ·refine .inr ⟨fun y hy zw=> ?_,b⟩;cases hy with
    |head=>exact absurd zw hD
    |tail _ hy=>exact a y hy zw
theorem Od(x:Tr)(tr:List Tr)(g0:Gt):gv (fun _=>True) (x::tr) g0=gM (gv (fun _=>True) tr g0) x.dst x.v:=by
 rw[gv,if_pos trivial]
def mH(ops:List Oper):List Tr→Prop
 |[]=>True
 |x::tr=>mH ops tr∧(∀y∈tr,y.i≠x.i)∧∃o,ops[x.i]? =some o∧x.dst=o.dst∧∀e∈o.after.toList,Region.binds .any e=true→∃y∈tr,y.i=e.on
theorem mH.rB{ops:List Oper}:∀{tr:List Tr},mH ops tr→zB ops (fun j=>∃y∈tr,y.i=j)
 |[],_=>fun j oj _ ⟨y,hy,_⟩=>by cases hy
 |x::tr,⟨h1,h2,o,ho,hd,he⟩=>fun j oj hj ⟨y,hy,hyj⟩ e NH hb=>by
  cases hy with
  |head=>
   subst hyj;rw[ho] at hj;cases hj;obtain⟨z,hz,Be⟩:=he e NH hb;exact⟨z,xo _ hz,Be⟩
  |tail _ hy=>
   obtain⟨z,hz,Be⟩:=h1.rB j oj hj ⟨y,hy,hyj⟩ e NH hb;exact⟨z,xo _ hz,Be⟩
theorem mH.op{ops:List Oper}:∀{tr:List Tr},mH ops tr→∀x∈tr,∃o,ops[x.i]? =some o∧x.dst=o.dst
 |[],_,x,hx=>by cases hx
 |y::tr,⟨h1,_,o,ho,hd,_⟩,x,hx=>by
  cases hx with
  |head=>exact⟨o,ho,hd⟩
  |tail _ hx=>exact h1.op x hx
theorem mH.G4{ops:List Oper}:∀{tr:List Tr},mH ops tr→∀x∈tr,∀y∈tr,x.i=y.i→x=y
 |[],_,x,hx,_,_,_=>by cases hx
 |z::tr,⟨h1,h2,_⟩,x,hx,y,hy,e=>by
  cases hx with
  |head=>cases hy with
   |head=>rfl
   |tail _ hy=>exact absurd e.symm (h2 y hy)
  |tail _ hx=>cases hy with
   |head=>exact absurd e (h2 x hx)
   |tail _ hy=>exact h1.G4 x hx y hy e
def Dd(ops:List Oper):Prop:=
 (∀(i:Nat) (oi:Oper) (j:Nat) (oj:Oper) (t:Tmp),ops[i]? =some oi→ops[j]? =some oj→t∈oi.looksAt ⟨ops⟩→oj.dst=some t→j=i∨bit (je ops i) j=true∨bit (je ops j) i=true)∧
 (∀(i:Nat) (oi:Oper) (j:Nat) (oj:Oper) (t:Tmp),ops[i]? =some oi→ops[j]? =some oj→oi.dst=some t→oj.dst=some t→i=j)
theorem ao7{ops:List Oper}(hs:Dd ops){D:Nat→Prop}(hD:zB ops D){i:Nat}{o:Oper}(ho:ops[i]? =some o)(hr:∀e∈o.after.toList,Region.binds .any e=true→D e.on)(ow: ¬D i)
 {tr tl pre:List Tr} {x0:Tr} (HX:tr=pre++x0::tl) (sK:x0.i=i) (hw:mH ops tr) (UA:mH ops (x0::tl)) (g0:Gt) {t:Tmp} (ht:t∈o.looksAt ⟨ops⟩):gv D tr g0 t=gv (fun _=>True) tl g0 t:=by
 have sub:∀y∈tl,y∈tr:=fun y hy=>by rw[HX];exact List.mem_append_right _ (xo _ hy)
 have dE2:x0∈tr:=by rw[HX];exact List.mem_append_right _ xn
 obtain⟨Ec,Mu,o',jb,_,co5⟩:=UA;rw[sK,ho] at jb;cases jb;have de2:∀j,bit (je ops i) j=true→j≠i→∃y∈tl,y.i=j:=fun j hb bq=>
  (EP (Ec.rB) ho co5 hb).resolve_right bq
 rcases uW D g0 t tr with⟨x,hx,NS,wk,hv⟩|⟨gG,hv⟩
 ·obtain⟨ox,Nz,NJ⟩:=hw.op x hx;have iJ:x.i≠i:=fun e=>ow (e▸NS)
  rcases hs.1 i o x.i ox t ho Nz ht (NJ▸wk) with e|e|e
  ·exact absurd e iJ
  ·obtain⟨y,hy,Eb⟩:=de2 x.i e iJ;have hyx:y=x:=hw.G4 y (sub y hy) x hx Eb;subst hyx;rcases uW (fun _=>True) g0 t tl with⟨z,hz,_,hzt,cx⟩|⟨Ts,_⟩
   ·obtain⟨oz,hoz,hdz⟩:=hw.op z (sub z hz);have:=hs.2 z.i oz y.i ox t hoz Nz (hdz▸hzt) (NJ▸wk);have hzy:z=y:=hw.G4 z (sub z hz) y hx this;rw[hv,cx,hzy]
   ·exact absurd wk (Ts y hy trivial)
  ·exact absurd (Ow hD e NS) ow
 ·rcases uW (fun _=>True) g0 t tl with⟨y,hy,_,Ea,_⟩|⟨_,cx⟩
  ·exfalso;obtain⟨oy,UN,U2⟩:=hw.op y (sub y hy);have Eb:y.i≠i:=fun e=>Mu y hy (e.trans sK.symm)
   rcases hs.1 i o y.i oy t ho UN ht (U2▸Ea) with e|e|e
   ·exact Eb e
   ·have zw:=(EP hD ho hr e).resolve_right Eb;exact gG y (sub y hy) zw Ea
   ·
    have hc:=Ec.rB;obtain⟨z,hz,Be⟩:=Ow hc e ⟨y,hy,rfl⟩;exact Mu z hz (Be.trans sK.symm)
  ·rw[hv,cx]
theorem zD{α γ:Type}{f g:α→γ}:∀{l:List α},(∀x∈l,f x=g x)→ez f l=ez g l
 |[],_=>rfl
 |a::l,h=>by
  show f a::ez f l=g a::ez g l;rw[h a xn,zD (fun x hx=>h x (xo _ hx))]
theorem Wk{E:av}{sq:List (Nat×List xO)}{A:AW}{g g':Gt}{op:Op}(h:∀x∈op.operands,ev E g x=ev E g' x):aC E sq A g op=aC E sq A g' op:=by
 cases op
 case move x=>simp only [aC];rw[h x (by simp[Op.operands])]
 case assign x=>simp only [aC];rw[h x (by simp[Op.operands])]
 case pick c a b=>simp only [aC];rw[h c (by simp[Op.operands]),h a (by simp[Op.operands]),h b (by simp[Op.operands])]
 case box t x=>simp only [aC];rw[h x (by simp[Op.operands])]
 case build t ps=>
  obtain⟨ps⟩:=ps;simp only [aC];rw[zD (fun p hp=>by rw[h p.2 (by simp only [Op.operands,List.mem_toArray,xJ];exact⟨p,hp,rfl⟩)])]
 case buildSlice t n ps=>
  obtain⟨ps⟩:=ps;simp only [aC];rw[zD (fun p hp=>by rw[h p.2 (by simp only [Op.operands,List.mem_toArray,xJ];exact⟨p,hp,rfl⟩)])]
 case load t a=>simp only [aC];rw[h a (by simp[Op.operands])]
 case store t a v=>simp only [aC];rw[h a (by simp[Op.operands]),h v (by simp[Op.operands])]
 case nilCheck x=>simp only [aC];rw[h x (by simp[Op.operands])]
 case binOp o t x y ty=>simp only [aC];rw[h x (by simp[Op.operands]),h y (by simp[Op.operands])]
 case unOp o t x=>simp only [aC];rw[h x (by simp[Op.operands])]
 case convert s d x=>simp only [aC];rw[h x (by simp[Op.operands])]
 case makeFunc fn p q=>
  obtain⟨p⟩:=p;obtain⟨q⟩:=q;cases fn<;>simp only [aC]
  rw[zD (fun x hx=>h x (by simp[Op.operands,hx])),zD (l:=q) (fun x hx=>h x (by simp[Op.operands,hx]))]
 case makeSlice t l c=>simp only [aC];rw[h l (by simp[Op.operands]),h c (by simp[Op.operands])]
 case slice t x lo hi mx=>
  simp only [aC];rw[h x (by simp[Op.operands])];have e1:lo.map (ev E g)=lo.map (ev E g'):=by cases lo with|none=>rfl|some y=>exact congrArg some (h y (by simp[Op.operands]))
  have e2:hi.map (ev E g)=hi.map (ev E g'):=by cases hi with|none=>rfl|some y=>exact congrArg some (h y (by simp[Op.operands]))
  have e3:mx.map (ev E g)=mx.map (ev E g'):=by cases mx with|none=>rfl|some y=>exact congrArg some (h y (by simp[Op.operands]))
  rw[e1,e2,e3]
 case fieldAddr t x f=>simp only [aC];rw[h x (by simp[Op.operands])]
 case field t x f=>simp only [aC];rw[h x (by simp[Op.operands])]
 case indexAddr t x i=>simp only [aC];rw[h x (by simp[Op.operands]),h i (by simp[Op.operands])]
 case index t x i=>simp only [aC];rw[h x (by simp[Op.operands]),h i (by simp[Op.operands])]
 case extract x i=>simp only [aC];rw[h x (by simp[Op.operands])]
 case call c=>
  obtain⟨u9,⟨args⟩,tys⟩:=c;have il:∀x∈args,ev E g x=ev E g' x:=fun x hx=>h x (by simp[Op.operands,Call.operands,hx])
  cases u9 with
  |value f=>
   simp only [aC];rw[h f (by simp[Op.operands,Call.operands]),zD il]
  |invoke r m=>simp only [aC]
  |builtin b=>
   obtain⟨tys⟩:=tys;simp only [aC];rw[zD il]
 case makeMap t r=>
  simp only [aC];have e1:r.map (ev E g)=r.map (ev E g'):=by cases r with|none=>rfl|some y=>exact congrArg some (h y (by simp[Op.operands]))
  rw[e1]
 case lookup t x k b=>simp only [aC];rw[h x (by simp[Op.operands]),h k (by simp[Op.operands])]
 case mapUpdate t m k x=>simp only [aC];rw[h m (by simp[Op.operands]),h k (by simp[Op.operands]),h x (by simp[Op.operands])]
 case insert t m k x=>simp only [aC];rw[h m (by simp[Op.operands]),h k (by simp[Op.operands]),h x (by simp[Op.operands])]
 case mapEntry t m k=>simp only [aC];rw[h m (by simp[Op.operands]),h k (by simp[Op.operands])]
 case entryStore t m k x=>simp only [aC];rw[h m (by simp[Op.operands]),h k (by simp[Op.operands]),h x (by simp[Op.operands])]
 case range t x=>simp only [aC];rw[h x (by simp[Op.operands])]
 case next it b=>
  cases b
  ·simp only [aC];rw[h it (by simp[Op.operands])]
  ·simp only [aC]
 case entry it=>simp only [aC];rw[h it (by simp[Op.operands])]
 all_goals simp only [aC]
theorem aV7{E:av}{sq:List (Nat×List xO)}{g g':Gt}{op:Op}(h:∀x∈op.operands,ev E g x=ev E g' x):keyOf E sq g op=keyOf E sq g' op:=by
 cases op
 case binOp b t x y ty=>simp only [keyOf];rw[h x (by simp[Op.operands]),h y (by simp[Op.operands])]
 case unOp u t x=>simp only [keyOf];rw[h x (by simp[Op.operands])]
 case convert s d x=>simp only [keyOf];rw[h x (by simp[Op.operands])]
 case index t x i=>simp only [keyOf];rw[h x (by simp[Op.operands]),h i (by simp[Op.operands])]
 case indexAddr t x i=>simp only [keyOf];rw[h x (by simp[Op.operands]),h i (by simp[Op.operands])]
 case fieldAddr t x f=>simp only [keyOf];rw[h x (by simp[Op.operands])]
 case load t x=>simp only [keyOf];rw[h x (by simp[Op.operands])]
 case nilCheck x=>simp only [keyOf];rw[h x (by simp[Op.operands])]
 case slice t x lo hi mx=>
  cases mx with
  |some y=>rfl
  |none=>
   simp only [keyOf];have e1:qW E g lo=qW E g' lo:=by cases lo with|none=>rfl|some y=>exact h y (by simp[Op.operands])
   have e2:sQ E g hi=sQ E g' hi:=by cases hi with|none=>rfl|some y=>exact congrArg (fun v=>[v]) (h y (by simp[Op.operands]))
   rw[h x (by simp[Op.operands]),e1,e2]
 case call c=>
  obtain⟨u9,⟨args⟩,⟨tys⟩⟩:=c;cases u9 with
  |builtin b=>
   cases b
   case len=>
    match args,tys with
    |[x],[t]=>simp only [keyOf];rw[h x (by simp[Op.operands,Call.operands])]
    |[],_=>rfl
    |_::_::_,_=>rfl
    |[_],[]=>rfl
    |[_],_::_::_=>rfl
   case max=>
    simp only [keyOf];rw[kV,kV,List.map_congr_left fun x hx=>h x (by simp[Op.operands,Call.operands,hx])]
   case min=>
    simp only [keyOf];rw[kV,kV,List.map_congr_left fun x hx=>h x (by simp[Op.operands,Call.operands,hx])]
   all_goals rfl
  |_=>rfl
 all_goals rfl
theorem aV0{E:av}{sq:List (Nat×List xO)}{g g':Gt}{op:Op}(h:∀x∈op.operands,ev E g x=ev E g' x)(nd:Node):yk E sq g op nd=yk E sq g' op nd:=by
 unfold yk;rw[aV7 h]
theorem aY5{E:av}{A:AW}{g g':Gt}{op:Op}(h:∀x∈op.operands,ev E g x=ev E g' x):yP E A g op=yP E A g' op:=by
 unfold yP;split
 ·rename_i x t;rw[h x (by simp[Op.operands,Call.operands])]
 ·rename_i t x i;rw[h x (by simp[Op.operands]),h i (by simp[Op.operands])]
 ·rename_i t x;rw[h x (by simp[Op.operands])]
 ·rename_i s d x;rw[h x (by simp[Op.operands])]
 ·rfl
theorem VQ{E:av}{sq:List (Nat×List xO)}{A:AW}{g g':Gt}{op:Op}(h:∀x∈op.operands,ev E g x=ev E g' x)(nd:Node):n5 E sq A g op nd=n5 E sq A g' op nd:=by
 unfold n5;rw[aY5 h,aV0 h]
theorem VR{E:av}{A:AW}{g g':Gt}{op:Op}(h:∀x∈op.operands,ev E g x=ev E g' x):qF E A g op=qF E A g' op:=by
 unfold qF;split
 ·rename_i s x t tx;rw[h s (by simp[Op.operands,Call.operands]),h x (by simp[Op.operands,Call.operands])]
 ·rename_i t x y;rw[h x (by simp[Op.operands]),h y (by simp[Op.operands])]
 ·rename_i t x y;rw[h x (by simp[Op.operands]),h y (by simp[Op.operands])]
 ·rename_i s d x;rw[h x (by simp[Op.operands])]
 ·rename_i x ts;rw[h x (by simp[Op.operands,Call.operands])]
 ·rename_i x y t ti;rw[h x (by simp[Op.operands,Call.operands]),h y (by simp[Op.operands,Call.operands])]
 ·rename_i t x lo hi;have e1:qW E g lo=qW E g' lo:=by cases lo with|none=>rfl|some y=>exact h y (by simp[Op.operands])
  have e2:sQ E g hi=sQ E g' hi:=by cases hi with|none=>rfl|some y=>exact congrArg (fun v=>[v]) (h y (by simp[Op.operands]))
  rw[h x (by simp[Op.operands]),e1,e2]
 ·rename_i d x t tx;rw[h d (by simp[Op.operands,Call.operands]),h x (by simp[Op.operands,Call.operands])]
 ·rename_i f x ts;rw[h f (by simp[Op.operands,Call.operands]),h x (by simp[Op.operands,Call.operands])]
 ·rfl
 ·rename_i t m k x;rw[h m (by simp[Op.operands]),h k (by simp[Op.operands]),h x (by simp[Op.operands])]
 ·rfl
theorem aV5{E:av}{g g':Gt}{op:Op}(h:∀x∈op.operands,ev E g x=ev E g' x):J6 E g op=J6 E g' op:=by
 unfold J6;split
 ·rename_i x y _;rw[h x (by simp[Op.operands,Call.operands])]
 ·rfl
 ·rfl
theorem bc0{E:av}{sq:List (Nat×List xO)}{A:AW}{g g':Gt}{op:Op}(h:∀x∈op.operands,ev E g x=ev E g' x):iY E sq A g op=iY E sq A g' op:=by
 unfold iY;rw[Fq,Fq,Wk h,aX6 (VQ h),VR h,aV5 h];split
 ·rw[VR h]
 ·rfl
theorem bl5{E:av}{g g':Gt}{x:Operand}(h:∀t,x= .tmp t→g t=g' t):ev E g x=ev E g' x:=by
 cases x with
 |tmp t=>exact h t rfl
 |_=>rfl
def pd(op:Op):Bool:=
 match op with
 | .move _=>true
 | .assign _=>true
 | .pick _ _ _=>true
 | .build _ _=>true
 | .nilCheck _=>true
 | .binOp _ _ _ _ _=>true
 | .unOp _ _ _=>true
 | .makeFunc _ _ _=>true
 | .fieldAddr _ _ _=>true
 | .field _ _ _=>true
 | .indexAddr _ _ _=>true
 | .index _ _ _=>true
 | .extract _ _=>true
 |_=>false
def fC(E:av)(op:Op):Nat:=
 match op with
 | .load _ _=>0
 | .convert _ d _=>match E.ti.get none d with|some ⟨.slice _,_,_,_,_⟩=>2|_=>0
 | .slice _ _ _ _ _=>0
 | .call ⟨.builtin .len,_,_⟩=>0
 | .call ⟨.builtin .min,_,_⟩=>0
 | .call ⟨.builtin .max,_,_⟩=>0
 | .alloc _=>1
 | .box _ _=>1
 | .buildSlice _ _ _=>1
 | .makeSlice _ _ _=>1
 |op=>bif pd op then 0 else 2
section
variable{P:Program}{E:av}(ok:E.Ok P){sq:List (Nat×List xO)}{w0 w:World}{β:ah}{A:AW}
theorem WO{A2:AW}{g:Gt}{op:Op}{v:xM}{A':AW}(hp:pd op=true)(h:aC E sq A g op= .val v A'):A'=A∧aC E sq A2 g op= .val v A2:=by
 cases op<;>try(cases hp;done)
 case makeFunc fn p q=>
  obtain⟨p⟩:=p;obtain⟨q⟩:=q;cases fn<;>simp only [aC] at h⊢<;>cases h
  exact⟨rfl,rfl⟩
 case build t ps=>
  obtain⟨ps⟩:=ps;simp only [aC] at h⊢;obtain⟨h1,rfl⟩:=tq h;exact⟨rfl,by rw[h1];rfl⟩
 all_goals
  simp only [aC] at h⊢
  first
  |(cases h;exact⟨rfl,rfl⟩)
  |(obtain⟨h1,rfl⟩:=tq h
    exact⟨rfl,by rw[h1];rfl⟩)
theorem Oi{g:Gt}{op:Op}{v:xM}{A':AW}(hk:fC E op=0)(h:aC E sq A g op= .val v A'):A'=A:=by
 cases hp:pd op with
 |true=>exact(WO (A2:=A) hp h).1
 |false=>
  cases op<;>simp only [fC,hp] at hk<;>try(cases hk;done)
  case load t x=>simp only [aC] at h;exact(tq h).2
  case slice t x lo hi mx=>simp only [aC] at h;exact(tq h).2
  case convert s d x=>
   simp only [aC,Db] at h;split at h
   ·cases h;rfl
   ·split at h
    ·cases h;rfl
    ·have h2:=lS h;unfold CF at h2;split at h2
     ·rename_i hd _;rw[hd] at hk;cases hk
     ·cases h2
  case call c=>
   obtain⟨u9,⟨args⟩,⟨tys⟩⟩:=c;cases u9 with
   |value f=>cases hk
   |invoke r m=>cases hk
   |builtin b=>
    simp only [aC,B5] at h;split at h
    ·exact(tq h).2
    all_goals first
     |(cases hk;done)
     |(cases h;done)
     |exact(tq h).2
include ok in
theorem bl1{A2:AW}(inv:Inv w0 E.G β A2 w){n:Nat}{g:Gt}{a:Act}(hf:bX β n g a.tmps){o:Oper}{v:xM}{A':AW}(hk:fC E o.op=1)(h:aC E sq A g o.op= .val v A'):
 ∃cs es bu e v',A'=A.add ⟨.cells cs,es,true,false,e⟩∧(execOp a.eval o).run P w= .ok (.value v') (w.alloc (.cells ⟨bu⟩ e))∧aT β cs bu∧∀ak:ah,ak A.next=some ⟨w.heap.size,0,es,bu.length⟩→ai ak v v':=by
 obtain⟨dst,op,type,uj,after,guard⟩:=o;have E1:=ky (a:=a) inv hf;simp only at hk h;cases hp:pd op with
 |true=>cases op<;>simp only [fC,pd] at hk hp<;>first|(cases hp;done)|(cases hk;done)
 |false=>
  cases op<;>simp only [fC,hp] at hk<;>try(cases hk;done)
  case convert s d x=>split at hk<;>cases hk
  case alloc t=>
   simp only [aC] at h;obtain⟨cs,es,e,rfl,bu,v',h1,h2,h3⟩:=Xf (P:=P) ok (lS h) β w;exact⟨cs,es,bu,e,v',rfl,by simp[execOp,h1],h2,h3⟩
  case box t x=>
   simp only [aC] at h;obtain⟨cs,es,e,rfl,bu,v',h1,h2,h3⟩:=Y5 (P:=P) (t:=t) (lS h) (E1 x) w;exact⟨cs,es,bu,e,v',rfl,by simp[execOp,h1],h2,h3⟩
  case buildSlice t len ps=>
   obtain⟨ps⟩:=ps;simp only [aC] at h;obtain⟨cs,es,e,rfl,bu,v',h1,h2,h3⟩:=Vx (P:=P) ok (lS h) (I6 hf inv ps) w;refine⟨cs,es,bu,e,v',rfl,?_,h2,h3⟩;have:(Instr.buildSlice t len (Array.map (fun(p:Nat×Operand)=>(p.1,a.eval p.2)) ⟨ps⟩)).run P w= .ok v' (w.alloc (.cells ⟨bu⟩ e)):=by simpa using h1
   show(do pure (Next.value (←Instr.buildSlice t len (Array.map (fun(p:Nat×Operand)=>(p.1,a.eval p.2)) ⟨ps⟩))):Sem Next).run P w=_;simp only [Sem.run_bind,this];rfl
  case makeSlice t x y=>
   simp only [aC] at h;obtain⟨cs,es,e,rfl,bu,v',h1,h2,h3⟩:=Vy (P:=P) ok (lS h) (E1 x) (E1 y) w;exact⟨cs,es,bu,e,v',rfl,by simp[execOp,h1],h2,h3⟩
  case call c=>
   obtain⟨u9,args,tys⟩:=c;cases u9<;>simp only [fC,pd] at hk<;>try(cases hk;done)
   rename_i b;cases b<;>simp only [fC,pd] at hk<;>cases hk
theorem Inv.map(h:Inv w0 E.G β A w)(N:Nat)(hN:N<A.next)(hb:β N=none)(o:Obj)(l:Loc)(hl:l.b=w.heap.size)(fQ:∀ao,A.get N=some ao→hM (β.put N l) l ao (some o)):
 Inv w0 E.G (β.put N l) A (w.alloc o):=by
 have iV:∀B lb,β.put N l B=some lb→(B=N∧lb=l)∨(B≠N∧β B=some lb):=fun B lb e=>by
  rw[ah.tF] at e;split at e
  ·cases e;exact .inl ⟨by assumption,rfl⟩
  ·exact .inr ⟨by assumption,e⟩
 have aR:β.le (β.put N l):=⟨fun B lb e=>by
  rw[ah.tF];rw[if_neg (fun e2=>by rw[e2,hb] at e;cases e)];exact e,fun _ _ h=>h,fun _ _ h=>h,rfl,rfl⟩
 have aU:(w.alloc o).heap.size=w.heap.size+1:=by simp
 refine⟨h.below.alloc o,fun B lb e=> ?_,h.dh,fun B lb e=> ?_,fun B B' lb sH e e' eE ha iz=> ?_,fun B k lb hk e=> ?_,fun g hg=> ?_,fun b cs hz=>Vq (h.bH b cs hz),fun B lb kb hG e ha hs=> ?_,h.fw,fun B k hk=>(h.own B k hk).mono aR,h.jj,h.lay,h.xg,h.jv,h.zo⟩
 ·rcases iV B lb e with⟨e1,_⟩|⟨_,e⟩
  ·omega
  ·exact h.gU B lb e
 ·rw[aU];rcases iV B lb e with⟨_,e2⟩|⟨_,e⟩
  ·rw[e2];exact⟨by omega,.inr (.inl (by rw[hl];exact h.below.size))⟩
  ·exact⟨Nat.lt_succ_of_lt (h.loc B lb e).1,(h.loc B lb e).2⟩
 ·rcases iV B lb e with⟨h1,h2⟩|⟨hB,f⟩<;>rcases iV B' sH e' with⟨mf,zy⟩|⟨ry,f'⟩
  ·rw[h1,mf]
  ·have:=(h.loc B' sH f').1;rw[h2,hl] at eE;omega
  ·have:=(h.loc B lb f).1;rw[zy,hl] at eE;omega
  ·exact h.inj B B' lb sH f f' eE ha iz
 ·rcases iV B lb e with⟨h1,h2⟩|⟨hB,f⟩
  ·rw[h1] at hk;rw[h2,hl,heap_alloc_new];exact fQ k hk
  ·rw[Below.heap_alloc w o _ (h.loc B lb f).1];exact(h.cont B k lb hk f).mono aR
 ·obtain⟨lg,a,b,c⟩:=h.jm g hg;exact⟨lg,aR.f _ _ a,b,c⟩
 ·rcases iV B lb e with⟨_,h2⟩|⟨hB,f⟩
  ·rw[h2];exact h.Zb (by omega)
  ·exact h.sep B lb kb hG f ha hs
end
def LJ(a b:ap):Bool:=
 match a,b with
 |⟨.cells x,e,ex,ro,ty⟩,⟨.cells y,e',kr,kg,iX⟩=>lm x y&&Nat.beq e e'&&bs ex kr (not kr)&&bs ro kg (not kg)&&Nat.beq ty iX
 |_,_=>false
theorem Xd{a b:ap}(h:LJ a b=true):a=b:=by
 unfold LJ at h;split at h
 ·rename_i x e ex ro ty y e' kr kg iX;simp only [xf] at h;rw[lQ _ _ h.1.1.1.1,xb h.1.1.1.2,xb h.2];have h1:ex=kr:=by have:=h.1.1.2;cases ex<;>cases kr<;>first|rfl|cases this
  have h2:ro=kg:=by have:=h.1.2;cases ro<;>cases kg<;>first|rfl|cases this
  rw[h1,h2]
 ·cases h
structure gK where
 i:Nat
 o:Oper
 g:Gt
 v:xM
 wanted:Bool
 nb:Option (Nat×ap)
 sy:Option Node
def vE(E:av)(sq:List (Nat×List xO))(A:AW)(e:gK):Bool:=
 bs e.wanted (match e.sy with
  |some nd=>(match n5 E sq A e.g e.o.op nd with|some v=>ud v e.v|none=>false)
  |none=>match e.nb with
   |some (N,ao)=>(match A.get N with|none=>true|some b=>LJ b ao)
   |none=>bs (pd e.o.op) true (match D5 e.o.op E sq A e.g with| .val v _=>ud v e.v|_=>false)) true
def Fk{ρ:Type}(E:av)(sq:List (Nat×List xO))(call:cL→List xM→AW→aZ xM)(ops:List Oper)(ih:List gK→Gt→AW→List Tr→Option ρ)(i:Nat)(bw:List gK)(g:Gt)(A:AW)(tr:List Tr):Option ρ:=
 match dj ops i with
 |none=>none
 |some o=>match oM ops g o with
  |none=>none
  |some wd=>
   bs (Nat.ble 2 (fC E o.op))
    (bs (eo (vE E sq A) bw)
     (bs wd
      (match iY E sq A g o.op with
      | .val v A'=>yg v (fun v=>u7 A' (fun A'=>ih (lT (fun e=>not (bit (je ops i) e.i)) bw) (gM g o.dst v) A' (⟨i,o.dst,v⟩::tr)))
      | .call f args=>(match call f args A with
       |some [(v,A')]=>ih (lT (fun e=>not (bit (je ops i) e.i)) bw) (gM g o.dst v) A' (⟨i,o.dst,v⟩::tr)
       |_=>none)
      | .fail=>none
      | .nd _=>none)
      (ih (lT (fun e=>not (bit (je ops i) e.i)) bw) (gM g o.dst undef) A (⟨i,o.dst,undef⟩::tr))) none)
    (bs wd
     (match D5 o.op E sq A g with
     | .val v A'=>yg v (fun v=>u7 A' (fun A'=>
      bs (Nat.beq (fC E o.op) 1)
       (match A'.get A.next with
       |some b=>ih (⟨i,o,g,v,true,some (A.next,b),none⟩::bw) (gM g o.dst v) A' (⟨i,o.dst,v⟩::tr)
       |none=>none)
       (ih (⟨i,o,g,v,true,none,none⟩::bw) (gM g o.dst v) A' (⟨i,o.dst,v⟩::tr))))
     | .fail=>(match A.tape with
      |[]=>none
      |nd::r=>match n5 E sq A g o.op nd with
       |some v=>ih (⟨i,o,g,v,true,none,some nd⟩::bw) (gM g o.dst v) (A.pop r) (⟨i,o.dst,v⟩::tr)
       |none=>none)
     |_=>none)
     (ih (⟨i,o,g,undef,false,none,none⟩::bw) (gM g o.dst undef) A (⟨i,o.dst,undef⟩::tr)))
def zR{ρ:Type}(E:av)(sq:List (Nat×List xO))(call:cL→List xM→AW→aZ xM)(ops:List Oper)(fin:List gK→Gt→AW→List Tr→Option ρ)(L:List Nat):List gK→Gt→AW→List Tr→Option ρ:=
 List.rec (motive:=fun _=>List gK→Gt→AW→List Tr→Option ρ) fin (fun i _ ih=>Fk E sq call ops ih i) L
def Qm(E:av)(sq:List (Nat×List xO))(bw:List gK)(_:Gt)(A:AW)(tr:List Tr):Option (List Tr×AW):=bs (eo (vE E sq A) bw) (some (tr,A)) none
def Fh(bC:Nat)(o:Oper):Bool:=eo (fun e=>bs (Region.binds .any e) (bit bC e.on) true) o.after.toList
def AZ(E:av)(ops:List Oper)(ih:Nat→Option Nat→Bool)(i bC:Nat)(jk:Option Nat):Bool:=
 match dj ops i with
 |none=>false
 |some o=>not (bit bC i)&&Fh bC o&& (match jk with|none=>true|some e=>bit (je ops i) e)&&ih (Nat.lor bC (Nat.pow 2 i)) (bs (Nat.ble 2 (fC E o.op)) (some i) jk)
def vX(E:av)(ops:List Oper)(L:List Nat):Nat→Option Nat→Bool:=
 List.rec (motive:=fun _=>Nat→Option Nat→Bool) (fun _ _=>true) (fun i _ ih=>AZ E ops ih i) L
def rV{α:Type}(f:Nat→α→Bool)(l:List α):Nat→Bool:=
 List.rec (motive:=fun _=>Nat→Bool) (fun _=>true) (fun a _ ih i=>bs (f i a) (ih (Nat.add i 1)) false) l
theorem B1{α:Type}(f:Nat→α→Bool):∀(l:List α) (k:Nat),rV f l k=true→∀i a,l[i]? =some a→f (k+i) a=true
 |[],_,_,i,a,h=>by simp at h
 |b::l,k,h,i,a,hi=>by
  have h':bs (f k b) (rV f l (k+1)) false=true:=h;cases hb:f k b with
  |false=>rw[hb] at h';cases h'
  |true=>
   rw[hb,ek] at h';cases i with
   |zero=>simp at hi;subst hi;exact hb
   |succ i=>
    have:=B1 f l (k+1) h' i a (by simpa using hi);rw[show k+(i+1)=k+1+i by omega];exact this
def CL(ops:List Oper)(i:Nat)(oi:Oper)(j:Nat)(oj:Oper):Bool:=
 match oj.dst with
 |none=>true
 |some t=>bs ((oi.looksAt ⟨ops⟩).contains t) (Nat.beq j i||bit (je ops i) j||bit (je ops j) i) true&& (match oi.dst with|some t'=>bs (Nat.beq t' t) (Nat.beq i j) true|none=>true)
def cl3{α:Type}(f:α→Bool)(l:List α):Option α:=List.rec (motive:=fun _=>Option α) none (fun a _ ih=>bs (f a) (some a) ih) l
def Z7(E:av)(n:Nat)(ops:List Oper)(L:List Nat):Bool:=
 vX E ops L 0 none&&rV (fun i _=>uk i L) ops 0&&rV (fun i oi=>rV (fun j oj=>CL ops i oi j oj) ops 0) ops 0&&eo (fun o=>match o.dst with|some d=>Nat.blt d n|none=>true) ops&&Region.noSelect ⟨ops⟩
theorem WM{ops:List Oper}(h:rV (fun i oi=>rV (fun j oj=>CL ops i oi j oj) ops 0) ops 0=true):Dd ops:=by
 have key:∀(i:Nat) (oi:Oper) (j:Nat) (oj:Oper),ops[i]? =some oi→ops[j]? =some oj→CL ops i oi j oj=true:=fun i oi j oj hi hj=>by
  have h1:=B1 _ ops 0 h i oi hi;rw[Nat.zero_add] at h1;have h2:=B1 _ ops 0 h1 j oj hj
  rwa [Nat.zero_add] at h2
 refine⟨fun i oi j oj t hi hj ht hd=> ?_,fun i oi j oj t hi hj uz ig=> ?_⟩
 ·have hb:=key i oi j oj hi hj;unfold CL at hb;rw[hd] at hb;simp only [xf] at hb;have hc:(oi.looksAt ⟨ops⟩).contains t=true:=by simpa using ht
  rw[hc,ek] at hb;simp only [Bool.or_eq_true] at hb;rcases hb.1 with(e|e)|e
  ·exact .inl (xb e)
  ·exact .inr (.inl e)
  ·exact .inr (.inr e)
 ·have hb:=key i oi j oj hi hj;unfold CL at hb;rw[ig] at hb;simp only [xf,uz] at hb;have:Nat.beq t t=true:=by rw[l4];simp
  rw[this,ek] at hb;exact xb hb.2
def Z8(E:av)(ops:List Oper)(bC:Nat)(aR9:Bool)(rest:List Nat):Option Nat:=
 cl3 (fun i=>match dj ops i with|some o=>Fh bC o&& (not aR9||Nat.blt (fC E o.op) 2)|none=>false) rest
def bB4(E:av)(ops:List Oper)(aP:Nat):Nat→List Nat→List Nat:=
 Nat.rec (motive:=fun _=>Nat→List Nat→List Nat) (fun _ _=>[])
  (fun _ ih bC rest=>match Z8 E ops bC true rest with
   |some i=>i::ih (Nat.lor bC (Nat.pow 2 i)) (lT (fun j=>not (Nat.beq j i)) rest)
   |none=>match Z8 E ops bC false rest with
    |some i=>i::ih (Nat.lor bC (Nat.pow 2 i)) (lT (fun j=>not (Nat.beq j i)) rest)
    |none=>[]) aP
def Jg(E:av)(ops:List Oper):List Nat:=bB4 E ops (bE ops) 0 (qG (fun i=>i) (bE ops) [])
def PX(n:Nat)(fr:Fr)(tr:List Tr):Option Fr:=
 List.rec (motive:=fun _=>Option Fr) (some fr) (fun x _ ih=>match ih with
  |none=>none
  |some cP=>match x.dst with
   |none=>some cP
   |some d=>bs (Nat.blt d n) (some (cP.set d x.v)) none) tr
theorem VO{n:Nat}{fr:Fr}:∀(tr:List Tr) (cP:Fr),PX n fr tr=some cP→∀t,cP.get J t=gv (fun _=>True) tr (fr.get J) t∨cP.get J t=J
 |[],cP,h,t=>by cases h;exact .inl rfl
 |x::tr,cP,h,t=>by
  have h':(match PX n fr tr with
   |none=>none
   |some cP=>match x.dst with
    |none=>some cP
    |some d=>bs (Nat.blt d n) (some (cP.set d x.v)) none)=some cP:=h
  clear h;rw[Od,BU];split at h'
  ·cases h'
  ·rename_i f1 Ib;have ih:=VO tr f1 Ib t;split at h'
   ·rename_i hd;cases h';rw[if_neg (by rw[hd];simp)];exact ih
   ·rename_i d hd;replace h':=aB h';rcases h' with⟨_,h'⟩|⟨_,h'⟩
    ·cases h';by_cases sV:d=t
     ·subst sV;rw[if_pos hd];rcases T.wT J f1 d x.v with e|e
      ·exact .inl e
      ·exact .inr e.1
     ·rw[if_neg (by rw[hd];intro e;exact sV (xC e)),T.uN J f1 d t x.v sV];exact ih
    ·cases h'
def T.has{α:Type}(t:T α):Nat→Bool:=
 T.rec (motive:=fun _=>Nat→Bool) (fun _=>false)
  (fun _ _ _ gl gr n=>Nat.rec (motive:=fun _=>Bool) true (fun p _=>Nat.rec (motive:=fun _=>Bool) (gl (Nat.div p 2)) (fun _ _=>gr (Nat.div p 2)) (Nat.mod p 2)) n) t
theorem T.bk8{α:Type}(l r:T α)(v:α)(n:Nat):T.has (.node l v r) n=if n=0 then true else if n%2=1 then l.has (n/2) else r.has (n/2 - 1):=by
 cases n with
 |zero=>rfl
 |succ p=>
  show Nat.rec (motive:=fun _=>Bool) (l.has (p/2)) (fun _ _=>r.has (p/2)) (Nat.mod p 2)=_;rw[lH,if_neg (show ¬p+1=0 by omega)];by_cases h:p%2=0
  ·rw[if_pos h,if_pos (by omega),show(p+1)/2=p/2 by omega]
  ·rw[if_neg h,if_neg (by omega),show(p+1)/2 - 1=p/2 by omega]
theorem T.Oe{α:Type}(d:α):∀(t:T α) (i:Nat) (x:α),t.has i=true→(t.set i x).get d i=x
 | .nil,_,_,h=>by cases h
 | .node l v r,i,x,h=>by
  rw[T.bk8] at h;rw[T.OR];by_cases h0:i=0
  ·subst h0;rw[if_pos rfl,T.jz,if_pos rfl]
  ·rw[if_neg h0] at h⊢;by_cases h1:i%2=1
   ·rw[if_pos h1] at h⊢;rw[T.jz,if_neg h0,if_pos h1];exact T.Oe d l _ x h
   ·rw[if_neg h1] at h⊢;rw[T.jz,if_neg h0,if_neg h1];exact T.Oe d r _ x h
def vI{ρ:Type}(fr:Fr)(dst:Option Tmp)(v:xM)(k:Fr→Option ρ):Option ρ:=
 Option.rec (motive:=fun _=>Fr→xM→(Fr→Option ρ)→Option ρ) (fun fr _ k=>k fr)
  (fun d fr v k=>Bool.rec (motive:=fun _=>Option ρ) none (fr.kB d v k) (fr.has d)) dst fr v k
theorem br0{ρ:Type}{fr:Fr}{dst:Option Tmp}{v:xM}{k:Fr→Option ρ}{res:ρ}(h:vI fr dst v k=some res):∃cP:Fr,k cP=some res∧cP.get J=gM (fr.get J) dst v:=by
 cases dst with
 |none=>exact⟨fr,h,rfl⟩
 |some d=>
  have h':Bool.rec (motive:=fun _=>Option ρ) none (fr.kB d v k) (fr.has d)=some res:=h;cases hd:fr.has d with
  |false=>rw[hd] at h';cases h'
  |true=>
   rw[hd] at h';have h2:fr.kB d v k=some res:=h';rw[T.Jb] at h2;refine⟨fr.set d v,h2,funext fun t=> ?_⟩;rw[BU];by_cases ht:d=t
   ·subst ht;rw[if_pos rfl];exact T.Oe J fr d v hd
   ·rw[if_neg (fun e=>ht (xC e))];exact T.uN J fr d t v ht
def Pj{ρ:Type}(E:av)(sq:List (Nat×List xO))(call:cL→List xM→AW→aZ xM)(ops:List Oper)(ih:List gK→Fr→AW→List Tr→Option ρ)(i:Nat)(bw:List gK)(fr:Fr)(A:AW)(tr:List Tr):Option ρ:=
 match dj ops i with
 |none=>none
 |some o=>match oM ops (fr.get J) o with
  |none=>none
  |some wd=>
   bs (Nat.ble 2 (fC E o.op))
    (bs (eo (vE E sq A) bw)
     (bs wd
      (match iY E sq A (fr.get J) o.op with
      | .val v A'=>yg v (fun v=>u7 A' (fun A'=>vI fr o.dst v (fun fr=>ih (lT (fun e=>not (bit (je ops i) e.i)) bw) fr A' (⟨i,o.dst,v⟩::tr))))
      | .call f args=>(match call f args A with
       |some [(v,A')]=>vI fr o.dst v (fun fr=>ih (lT (fun e=>not (bit (je ops i) e.i)) bw) fr A' (⟨i,o.dst,v⟩::tr))
       |_=>none)
      | .fail=>none
      | .nd _=>none)
      (vI fr o.dst undef (fun fr=>ih (lT (fun e=>not (bit (je ops i) e.i)) bw) fr A (⟨i,o.dst,undef⟩::tr)))) none)
    (bs wd
     (match D5 o.op E sq A (fr.get J) with
     | .val v A'=>yg v (fun v=>u7 A' (fun A'=>
      bs (Nat.beq (fC E o.op) 1)
       (match A'.get A.next with
       |some b=>vI fr o.dst v (fun BD=>ih (⟨i,o,fr.get J,v,true,some (A.next,b),none⟩::bw) BD A' (⟨i,o.dst,v⟩::tr))
       |none=>none)
       (vI fr o.dst v (fun BD=>ih (⟨i,o,fr.get J,v,true,none,none⟩::bw) BD A' (⟨i,o.dst,v⟩::tr)))))
     | .fail=>(match A.tape with
      |[]=>none
      |nd::r=>match n5 E sq A (fr.get J) o.op nd with
       |some v=>vI fr o.dst v (fun BD=>ih (⟨i,o,fr.get J,v,true,none,some nd⟩::bw) BD (A.pop r) (⟨i,o.dst,v⟩::tr))
       |none=>none)
     |_=>none)
     (vI fr o.dst undef (fun BD=>ih (⟨i,o,fr.get J,undef,false,none,none⟩::bw) BD A (⟨i,o.dst,undef⟩::tr))))
def Fj{ρ:Type}(E:av)(sq:List (Nat×List xO))(call:cL→List xM→AW→aZ xM)(ops:List Oper)(fin:List gK→Gt→AW→List Tr→Option ρ)(L:List Nat):List gK→Fr→AW→List Tr→Option ρ:=
 List.rec (motive:=fun _=>List gK→Fr→AW→List Tr→Option ρ) (fun bw fr A tr=>fin bw (fr.get J) A tr) (fun i _ ih=>Pj E sq call ops ih i) L
theorem OD{ρ:Type}{E:av}{sq:List (Nat×List xO)}{call:cL→List xM→AW→aZ xM}{ops:List Oper}{fin:List gK→Gt→AW→List Tr→Option ρ}{res:ρ}:
 ∀(L:List Nat) (bw:List gK) (fr:Fr) (A:AW) (tr:List Tr),Fj E sq call ops fin L bw fr A tr=some res→zR E sq call ops fin L bw (fr.get J) A tr=some res
 |[],bw,fr,A,tr,h=>h
 |i::L,bw,fr,A,tr,h=>by
  have h':Pj E sq call ops (Fj E sq call ops fin L) i bw fr A tr=some res:=h;show Fk E sq call ops (zR E sq call ops fin L) i bw (fr.get J) A tr=some res;clear h;have put:∀(dst:Option Tmp) (v:xM) (p:List gK) (A':AW) (t:List Tr),vI fr dst v (fun fr=>Fj E sq call ops fin L p fr A' t)=some res→zR E sq call ops fin L p (gM (fr.get J) dst v) A' t=some res:=fun dst v p A' t hp=>by
   obtain⟨cP,h1,h2⟩:=br0 hp;rw[←h2];exact OD L p cP A' t h1
  unfold Pj at h';unfold Fk;cases ho:dj ops i with
  |none=>rw[ho] at h';cases h'
  |some o=>
   rw[ho] at h';simp only at h'⊢;cases hw:oM ops (fr.get J) o with
   |none=>rw[hw] at h';cases h'
   |some wd=>
    rw[hw] at h';simp only at h'⊢;cases hk:Nat.ble 2 (fC E o.op) with
    |true=>
     rw[hk,ek] at h';rw[ek];cases hs:eo (vE E sq A) bw with
     |false=>rw[hs,gC] at h';cases h'
     |true=>
      rw[hs,ek] at h';rw[ek];cases wd with
      |false=>rw[gC] at h';rw[gC];exact put _ _ _ _ _ h'
      |true=>
       rw[ek] at h';rw[ek];cases eu:iY E sq A (fr.get J) o.op with
       |fail=>rw[eu] at h';cases h'
       |nd q=>rw[eu] at h';cases h'
       |val v A'=>
        rw[eu] at h';simp only [EN,EO] at h'⊢;exact put _ _ _ _ _ h'
       |call f args=>
        rw[eu] at h';simp only at h'⊢;split at h'
        ·rename_i v A' hc;exact put _ _ _ _ _ h'
        ·cases h'
    |false=>
     rw[hk,gC] at h';rw[gC];cases wd with
     |false=>rw[gC] at h';rw[gC];exact put _ _ _ _ _ h'
     |true=>
      rw[ek] at h';rw[ek];cases eu:D5 o.op E sq A (fr.get J) with
      |fail=>
       rw[eu] at h';simp only at h'⊢;split at h'
       ·cases h'
       ·split at h'
        ·exact put _ _ _ _ _ h'
        ·cases h'
      |nd q=>rw[eu] at h';cases h'
      |call f args=>rw[eu] at h';cases h'
      |val v A'=>
       rw[eu] at h';simp only [EN,EO] at h'⊢;cases hb:Nat.beq (fC E o.op) 1 with
       |true=>
        rw[hb,ek] at h';rw[ek];split at h'
        ·rename_i b hg;exact put _ _ _ _ _ h'
        ·cases h'
       |false=>
        rw[hb,gC] at h';rw[gC];exact put _ _ _ _ _ h'
theorem bF8{ops:List Oper}(hs:Dd ops){tr:List Tr}(hw:mH ops tr){x0:Tr}(hx:x0∈tr){D:Nat→Prop}(hD: ¬D x0.i)(g0:Gt)(t:Nat):
 gv (fun j=>D j∨j=x0.i) tr g0 t=gM (gv D tr g0) x0.dst x0.v t:=by
 rw[BU];obtain⟨o0,Eh,wD⟩:=hw.op x0 hx;have yN:∀x∈tr,∀y∈tr,x.dst=some t→y.dst=some t→x=y:=fun x hx y hy h1 h2=>by
  obtain⟨ox,Nz,NJ⟩:=hw.op x hx;obtain⟨oy,UN,U2⟩:=hw.op y hy;exact hw.G4 x hx y hy (hs.2 _ _ _ _ t Nz UN (NJ▸h1) (U2▸h2))
 by_cases hd:x0.dst=some t
 ·rw[if_pos hd];rcases uW (fun j=>D j∨j=x0.i) g0 t tr with⟨x,nL,_,wk,hv⟩|⟨gG,_⟩
  ·rw[hv,yN x nL x0 hx wk hd]
  ·exact absurd hd (gG x0 hx (.inr rfl))
 ·rw[if_neg hd];rcases uW (fun j=>D j∨j=x0.i) g0 t tr with⟨x,nL,NS,wk,hv⟩|⟨gG,hv⟩
  ·have dk2:D x.i:=NS.resolve_right (fun e=>hd (by rw[←hw.G4 x nL x0 hx e];exact wk));rcases uW D g0 t tr with⟨y,hy,_,Ea,cx⟩|⟨Ts,_⟩
   ·rw[hv,cx,yN x nL y hy wk Ea]
   ·exact absurd wk (Ts x nL dk2)
  ·rcases uW D g0 t tr with⟨y,hy,zw,Ea,_⟩|⟨_,cx⟩
   ·exact absurd Ea (gG y hy (.inl zw))
   ·rw[hv,cx]
theorem bX.gM{β:ah}{n:Nat}{g:Gt}{a:Act}(h:bX β n g a.tmps){dst:Option Tmp}(hd:∀d,dst=some d→d<n){v v':xM}(hv:ai β v v'):bX β n (Go.Ex.gM g dst v) (a.put dst v').tmps:=by
 cases dst with
 |none=>exact h
 |some d=>
  have oD:=hd d rfl;refine⟨by simp[Act.put,h.1],fun t=> ?_⟩;rw[BU];show ai β _ ((a.tmps.setIfInBounds d v').getD t undef);by_cases sV:d=t
  ·subst sV;have hs:d<a.tmps.size:=by rw[h.1];exact oD
   rw[if_pos rfl];have:(a.tmps.setIfInBounds d v').getD d undef=v':=by simp[hs]
   rw[this];exact hv
  ·rw[if_neg (fun e=>sV (xC e))];have:(a.tmps.setIfInBounds d v').getD t undef=a.tmps.getD t undef:=by simp[Array.getElem?_setIfInBounds_ne sV]
   rw[this];exact h.2 t
theorem bX.ext{β:ah}{n:Nat}{g g':Gt}{tmps:Array xM}(h:bX β n g tmps)(e:∀t,g' t=g t):bX β n g' tmps:=⟨h.1,fun t=>by rw[e t];exact h.2 t⟩
theorem VE{ops:List Oper}{g g':Gt}{o:Oper}(h:∀t∈o.looksAt ⟨ops⟩,g t=g' t):oM ops g o=oM ops g' o:=by
 unfold oM;split
 ·rfl
 ·rename_i j want hg;rw[eL];cases hj:ops[j]? with
  |none=>rfl
  |some og=>
   cases hd:og.dst with
   |none=>simp only [hd]
   |some t=>
    simp only [hd];rw[h t (by
     unfold Oper.looksAt;rw[hg];refine List.mem_append_right _ ?_;simp[hj,hd])]
theorem Oa{E:av}{ops:List Oper}{g g':Gt}{o:Oper}(h:∀t∈o.looksAt ⟨ops⟩,g t=g' t):∀x∈o.op.operands,ev E g x=ev E g' x:=fun x hx=>bl5 fun t ht=>h t (by
 unfold Oper.looksAt;refine List.mem_append_left _ (List.mem_filterMap.2 ⟨x,by simpa using hx,by rw[ht]⟩))
structure PE (E:av) (sq:List (Nat×List xO)) (δ:Nat→Option D) (ops:List Oper) (g0:Gt) (tr:List Tr) (e:gK):Prop where
 ex:∃pre x0 tl,tr=pre++x0::tl∧x0.i=e.i∧x0.v=e.v∧mH ops (x0::tl)∧e.g=gv (fun _=>True) tl g0
 op:ops[e.i]? =some e.o
 kind:fC E e.o.op≤1
 want:oM ops e.g e.o=some e.wanted
 unw:e.wanted=false→e.v=undef
 qt:e.wanted=true→e.nb=none→e.sy=none→fC E e.o.op=0∧∃A1,aC E sq A1 e.g e.o.op= .val e.v A1
 fr:e.wanted=true→∀N ao,e.nb=some (N,ao)→fC E e.o.op=1∧∃A1 A2,A1.next=N∧A1.get N=none∧aC E sq A1 e.g e.o.op= .val e.v A2∧A2.get N=some ao
 sy:∀nd,e.sy=some nd→e.nb=none∧e.wanted=true∧dw δ nd
theorem PE.cons{E:av}{sq:List (Nat×List xO)}{δ:Nat→Option D}{ops:List Oper}{g0:Gt}{tr:List Tr}{e:gK}(h:PE E sq δ ops g0 tr e)(x:Tr):PE E sq δ ops g0 (x::tr) e:=by
 obtain⟨pre,x0,tl,h1,h2⟩:=h.ex;exact⟨⟨x::pre,x0,tl,by rw[h1];rfl,h2⟩,h.op,h.kind,h.want,h.unw,h.qt,h.fr,h.sy⟩
structure PJ (w0:World) (E:av) (n:Nat) (ops:List Oper) (g0:Gt) (β0:ah) (A0:AW) (ds:List Deferred) (D:Nat→Prop) (β:ah) (A:AW) (bw:List gK) (tr:List Tr) (a:Act) (w:World):Prop where
 rB:zB ops D
 TK:∀x∈tr,∀o,ops[x.i]? =some o→2≤fC E o.op→D x.i
 un:∀x∈tr,¬D x.i→∃e∈bw,e.i=x.i
 only:∀j,D j→∃x∈tr,x.i=j
 frame:bX β n (gv D tr g0) a.tmps
 inv:Inv w0 E.G β A w
 fresh:∀e∈bw,¬D e.i→∀N ao,e.nb=some (N,ao)→β N=none∧N<A.next∧A0.next≤N
 grow:β0.grow β A0.next
 dh:A0.next≤A.next
 defers:a.defers=ds
section
variable{P:Program}{E:av}(ok:E.Ok P){sq:List (Nat×List xO)}(aY:E.Seq P sq){w0:World}{n:Nat}{ops:List Oper}(hs:Dd ops)(ka:∀o∈ops,∀d,o.dst=some d→d<n){g0:Gt}{β0:ah}{A0:AW}{ds:List Deferred}{ro:Option Nat}
include ok aY hs ka
theorem WB{D:Nat→Prop}{β:ah}{A:AW}{bw:List gK}{tr:List Tr}{a:Act}{w:World}(hw:mH ops tr)(j:PJ w0 E n ops g0 β0 A0 ds D β A bw tr a w)(o6:∀e∈bw,PE E sq β0.d ops g0 tr e)(rk:∀e∈bw,∀e'∈bw,∀N b b',e.nb=some (N,b)→e'.nb=some (N,b')→e.i=e'.i)
 {e:gK} (he:e∈bw) (bc:vE E sq A e=true) (hn: ¬D e.i) (hr:∀ed∈e.o.after.toList,Region.binds .any ed=true→D ed.on) {Q:Exit→Act→World→Prop} {K:Act→World→Prop}
 (hK:∀ak a' w',PJ w0 E n ops g0 β0 A0 ds (fun x=>D x∨x=e.i) ak A bw tr a' w'→K a' w'):wpOpIn (jC ro) 0 P ⟨ops⟩ Q e.i K a w:=by
 have pe:=o6 e he;obtain⟨pre,x0,tl,HX,sK,hxv,UA,hg⟩:=pe.ex;have Ti:x0∈tr:=by rw[HX];exact List.mem_append_right _ xn
 have de4:x0.dst=e.o.dst:=by
  obtain⟨o1,rj,uz⟩:=hw.op x0 Ti;rw[sK,pe.op] at rj;cases rj;exact uz
 have ag:∀t∈e.o.looksAt ⟨ops⟩,gv D tr g0 t=e.g t:=fun t ht=>by rw[hg];exact ao7 hs j.rB pe.op hr hn HX sK hw UA g0 ht
 have hom:e.o∈ops:=xu pe.op;have dj1:zB ops (fun x=>D x∨x=e.i):=fun i oi hi hd ed Ic hb=>by
  rcases hd with hd|hd
  ·exact .inl (j.rB i oi hi hd ed Ic hb)
  ·subst hd;rw[pe.op] at hi;cases hi;exact .inl (hr ed Ic hb)
 have mk:∀ak v' w',ai ak e.v v'→Inv w0 E.G ak A w'→β.le ak→(∀B,B<A.next→(∀N b,e.nb=some (N,b)→B≠N)→ak B=β B)→β0.grow ak A0.next→PJ w0 E n ops g0 β0 A0 ds (fun x=>D x∨x=e.i) ak A bw tr (a.put e.o.dst v') w':=fun ak v' w' hv bU aR Lz hg0=>by
  refine⟨dj1,fun x hx o ho hk=> .inl (j.TK x hx o ho hk),fun x hx jc=>j.un x hx (fun h=>jc (.inl h)),fun i hi=> ?_,?_,bU,fun e' fk aH5 N ao Hi=> ?_,hg0,j.dh,?_⟩
  ·rcases hi with hi|hi
   ·exact j.only i hi
   ·exact⟨x0,Ti,sK.trans hi.symm⟩
  ·have h1:=(j.frame.mono aR).gM (dst:=e.o.dst) (fun d hd=>ka e.o hom d hd) hv;refine h1.ext (fun t=> ?_);have h2:=bF8 hs hw Ti (D:=D) (by rw[sK];exact hn) g0 t;rw[sK,de4,hxv] at h2;exact h2
  ·obtain⟨h1,h2,h3⟩:=j.fresh e' fk (fun h=>aH5 (.inl h)) N ao Hi;refine⟨?_,h2,h3⟩;rw[Lz N h2 (fun N2 b2 cg hNN=>by subst hNN;exact aH5 (.inr (rk e' fk e he N ao b2 Hi cg)))];exact h1
  ·cases e.o.dst<;>exact j.defers
 unfold wpOpIn;have eu:(⟨ops⟩:Array Oper)[e.i]? =some e.o:=by simpa using pe.op
 simp only [eu];have Aq:=EW (a:=a) (by rw[VE ag];exact pe.want) j.frame;rw[Aq];cases Ed:e.wanted with
 |false=>
  rw[if_neg (by simp)];refine⟨fun _ _=>trivial,hK β _ w (mk β undef w ?_ j.inv (ah.le_refl _) (fun _ _ _=>rfl) j.grow)⟩;rw[pe.unw Ed];exact ai.undef
 |true=>
  rw[if_pos rfl];unfold Oper.wpIn;refine⟨fun _ _=>trivial,?_⟩;have oc:∀A1,aC E sq A1 (gv D tr g0) e.o.op=aC E sq A1 e.g e.o.op:=fun A1=>Wk (Oa ag)
  cases Bi:e.sy with
  |some nd=>
   obtain⟨h1,_,h3⟩:=pe.sy nd Bi;have h2:n5 E sq A e.g e.o.op nd=some e.v:=by
    unfold vE at bc;rw[Ed,ek,Bi] at bc;simp only at bc;split at bc
    ·rename_i v2 h4;rw[h4,Fb bc]
    ·cases bc
   have h5:=(VQ (Oa ag) nd).trans h2;obtain⟨v',aM,hv⟩:=Yo ok aY j.inv j.frame h5 (by rw[j.grow.d];exact h3);rw[bb7 h5,aM];exact hK β _ w (mk β v' w hv j.inv (ah.le_refl _) (fun _ _ _=>rfl) j.grow)
  |none=>
  cases Dw:e.nb with
  |none=>
   obtain⟨jt,A1,zx⟩:=pe.qt Ed Dw Bi;have aH3:aC E sq A (gv D tr g0) e.o.op= .val e.v A:=by
    rw[oc];unfold vE at bc;rw[Ed,ek,Bi,Dw] at bc;simp only [Fq] at bc;cases hp:pd e.o.op with
    |true=>exact(WO hp zx).2
    |false=>
     rw[hp,gC] at bc;split at bc
     ·rename_i v2 A3 h3;have:=Oi jt h3;subst this;rw[h3,Fb bc]
     ·cases bc
   obtain⟨ak,v',w',aM,hv,bU,lM,_⟩:=QN ok aY j.inv j.frame aH3;have res:=hK ak _ w' (mk ak v' w' hv bU (j.inv.fY lM) (fun B hB _=>lM.f B hB) (ah.iB j.grow lM j.dh));rw[OA aH3 (by simp)];rcases aM with ep|⟨ep,rfl⟩
   ·rw[ep];exact res
   ·rw[ep];exact res
  |some nb=>
   obtain⟨N,ao⟩:=nb;obtain⟨eS,A1,A2,hN1,hN0,zx,Bx⟩:=pe.fr Ed N ao Dw;obtain⟨cs,es,bu,ty,v',jM,aM,bZ,hv⟩:=bl1 (A:=A1) ok j.inv j.frame eS ((oc A1).trans zx);have qP:ao=⟨.cells cs,es,true,false,ty⟩:=by
    rw[jM] at Bx;rcases A1.rM ⟨.cells cs,es,true,false,ty⟩ (by rw[hN1];exact hN0) N with⟨e1,_⟩|e1
    ·rw[e1] at Bx;cases Bx;rfl
    ·rw[e1,hN0] at Bx;cases Bx
   obtain⟨hbN,dk1,dG9⟩:=j.fresh e he hn N ao Dw;have aR:β.le (β.put N ⟨w.heap.size,0,es,bu.length⟩):=⟨fun B lb eb=>by
    rw[ah.tF];rw[if_neg (fun e2=>by rw[e2,hbN] at eb;cases eb)];exact eb,fun _ _ h=>h,fun _ _ h=>h,rfl,rfl⟩
   have bU:=j.inv.map N dk1 hbN (.cells ⟨bu⟩ ty) ⟨w.heap.size,0,es,bu.length⟩ rfl (fun b hb=>by
    unfold vE at bc;rw[Ed,ek,Bi,Dw] at bc;simp only [hb] at bc;have:=Xd bc;subst this;rw[qP];have Dz:=bZ.mono aR;refine⟨⟨bu⟩,ty,(0,0),rfl,rfl,by simp[Dz.1],fun i v hv=> ?_,fun _=>rfl,fun _=>by simp[Dz.1],rfl,fun _=>rfl⟩;obtain⟨v2,cx,bK⟩:=Dz.get hv;exact⟨v2,by simpa using cx,bK⟩)
   rw[OA zx (by simp),aM];refine hK _ _ _ (mk _ v' _ (hv _ (by rw[hN1];exact jy _ _ _)) bU aR (fun B hB bq=> ?_) ⟨fun B hB=> ?_,j.grow.z,j.grow.o,j.grow.d,j.grow.x⟩)
   ·rw[ah.tF];rw[if_neg (bq N ao Dw)]
   ·rw[ah.tF];by_cases hBN:B=N
    ·omega
    ·rw[if_neg hBN];exact j.grow.f B hB
end
end
end Go.Ex
