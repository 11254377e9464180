/- A verified evaluator of Go functions. -/
import Derived.Test.YtaginlnifpbfgaaGreatDoorX1
import Derived.IntWalk
set_option linter.unusedVariables false
set_option linter.unusedSimpArgs false
set_option maxHeartbeats 4000000
set_option maxRecDepth 100000
namespace Go.Ex
open Go.RowKit
noncomputable section
def uT(x:Option xM)(Mr M2:Nat):Option Nat:=
 match x with
 |none=>some Mr
 |some (.int _ (.ofNat m))=>bs (Nat.ble m M2) (some m) none
 |some _=>none
def nh(β:af):Option xM→Option xM→Prop
 |none,none=>True
 |some v,some v'=>ai β v v'
 |_,_=>False
section
variable{P:Program}{β:af}
theorem run_sliceBound(k:xO)(m y:Nat)(h:m≤y)(code:BoundsCode)(w:World):(Instr.sliceBound (.int k (m:Int)) y code).run P w= .ok m w:=by
 have h0:(0:Int)≤(m:Int)∧(m:Int)≤(y:Int):=⟨by omega,by omega⟩;simp[Instr.sliceBound,asIntOf,h]
theorem wk{x x':Option xM}{Mr M2 m:Nat}(h:uT x Mr M2=some m)(hx:nh β x x'):(x'=none∧m=Mr)∨∃k,x'=some (.int k (m:Int))∧m≤M2:=by
 unfold uT at h;split at h
 ·cases h;cases x' with
  |none=>exact .inl ⟨rfl,rfl⟩
  |some v=>exact hx.elim
 ·rename_i k q;replace h:=au h;rcases h with⟨hb,h⟩|⟨_,h⟩
  ·cases h;cases x' with
   |none=>exact hx.elim
   |some v=>cases hx;exact .inr ⟨k,rfl,xh hb⟩
  ·cases h
 ·cases h
def u7(len cap:Nat)(lo hi mx:Option xM):Option (Nat×Nat×Nat):=
 match uT mx cap cap with
 |none=>none
 |some m=>match uT hi len m with
  |none=>none
  |some h=>match uT lo 0 h with
   |none=>none
   |some l=>some (l,h,m)
theorem tw{len cap cap':Nat}{lo hi mx lo' hi' mx':Option xM}{l h m:Nat}(hb:u7 len cap lo hi mx=some (l,h,m))(ij:nh β lo lo')(im:nh β hi hi')(lU:nh β mx mx')
 (cR:len≤cap) (rf:cap≤cap') (uH:mx.isSome=true→hi.isSome=true) (s:Bool) (w:World):
 (∃m',(Instr.sliceBounds s len cap' lo' hi' mx').run P w= .ok (l,h,m') w∧m≤m'∧m'≤cap'∧(cap=cap'→m=m'))∧l≤h∧h≤m∧m≤cap:=by
 unfold u7 at hb;split at hb
 ·cases hb
 rename_i m0 hm;split at hb
 ·cases hb
 rename_i h0 hh;split at hb
 ·cases hb
 rename_i l0 hl;cases hb;have H5:m≤cap:=by rcases wk hm lU with⟨_,rfl⟩|⟨k,_,h⟩<;>omega
 have H7:h≤m:=by
  rcases wk hh im with⟨e,rfl⟩|⟨k,_,h⟩
  ·rcases wk hm lU with⟨_,rfl⟩|⟨k,e2,h⟩
   ·exact cR
   ·subst e2;cases mx with
    |none=>exact lU.elim
    |some _=>
     have:=uH rfl;subst e;cases hi with
     |none=>cases this
     |some _=>exact im.elim
  ·exact h
 have Mb:l≤h:=by rcases wk hl ij with⟨_,rfl⟩|⟨k,_,h⟩<;>omega
 refine⟨?_,Mb,H7,H5⟩;rcases wk hm lU with⟨rfl,e1⟩|⟨km,rfl,_⟩
 ·refine⟨cap',?_,by omega,xk _,fun e=>by omega⟩;rcases wk hh im with⟨rfl,e2⟩|⟨kh,rfl,_⟩<;>rcases wk hl ij with⟨rfl,e4⟩|⟨kl,rfl,_⟩
  ·simp[Instr.sliceBounds,e2,e4]
  ·rw[←e2];simp[Instr.sliceBounds,run_sliceBound _ l h Mb]
  ·simp[Instr.sliceBounds,run_sliceBound _ h cap' (xH (xH H7 H5) rf),e4]
  ·simp[Instr.sliceBounds,run_sliceBound _ h cap' (xH (xH H7 H5) rf),run_sliceBound _ l h Mb]
 ·refine⟨m,?_,xk _,by omega,fun _=>rfl⟩;rcases wk hh im with⟨rfl,rfl⟩|⟨kh,rfl,_⟩
  ·cases mx with
   |none=>exact lU.elim
   |some _=>
    have:=uH rfl;cases hi with
    |none=>cases this
    |some _=>exact im.elim
  ·rcases wk hl ij with⟨rfl,e4⟩|⟨kl,rfl,_⟩
   ·simp[Instr.sliceBounds,run_sliceBound _ m cap' (xH H5 rf),run_sliceBound _ h m H7,e4]
   ·simp[Instr.sliceBounds,run_sliceBound _ m cap' (xH H5 rf),run_sliceBound _ h m H7,run_sliceBound _ l h Mb]
end
def JK(A:AW)(B:Nat):Option (List xM×Nat):=
 match A.get B with
 |some ⟨.cells cs,es,_,_,_⟩=>some (cs,es)
 |_=>none
def O1(E:aq)(A:AW)(t:xN)(x:xM)(lo hi mx:Option xM):Option xM:=
 match E.ti.get none t,x with
 |some ⟨.string,_,_,_,_⟩,.string ⟨⟨s⟩⟩=>
  match mx with
  |some _=>none
  |none=>match u7 (bI s) (bI s) lo hi none with
   |some (l,h,_)=>match ow (Nat.sub h l) (qd l s) with|some r=>some (.string ⟨⟨r⟩⟩)|none=>none
   |none=>none
 |some ⟨.slice kp,_,_,_,_⟩,.slice none 0 0=>
  match u7 0 0 lo hi mx,E.ti.get none kp with
  |some (0,0,0),some _=>some (.slice none 0 0)
  |_,_=>none
 |some ⟨.slice kp,_,_,_,_⟩,.slice (some ⟨B,o,none⟩) n c=>
  match u7 n c lo hi mx,E.ti.get none kp with
  |some (l,h,m),some r=>
   bs (Nat.ble n c) (bs (Nat.beq l 0) (some (.slice (some ⟨B,o,none⟩) h m))
    (bs (Nat.beq l m) (some (.slice (some ⟨ud,0,none⟩) 0 0))
     (match JK A B with
     |some (_,es)=>bs (Nat.beq es r.size) (some (.slice (some ⟨B,Nat.add o (Nat.mul l r.size),none⟩) (Nat.sub h l) (Nat.sub m l))) none
     |none=>none))) none
  |_,_=>none
 |some ⟨.slice kp,_,_,_,_⟩,.iface B (.tuple ⟨[]⟩)=>
  match lo,hi,mx with
  |none,some (.int _ (.ofNat 0)),none=>match A.get B,E.ti.get none kp with
   |some ⟨.own (.chan (some (c+1))),_,_,_,_⟩,some _=>some (.iface B (.chan (some (c+1))))
   |_,_=>none
  |_,_,_=>none
 |some ⟨.array n kp,_,_,_,_⟩,.pointer (some ⟨B,o,none⟩)=>
  match u7 n n lo hi mx,E.ti.get none kp,JK A B with
  |some (l,h,m),some r,some (cs,es)=>
   bs (Nat.beq es r.size&&Nat.ble (Nat.add o (Nat.mul n r.size)) (bI cs)) (some (.slice (some ⟨B,bs (Nat.beq l m) o (Nat.add o (Nat.mul l r.size)),none⟩) (Nat.sub h l) (Nat.sub m l))) none
  |_,_,_=>none
 |_,_=>none
def Kc(E:aq)(A:AW)(t:xN)(x:xM)(lo hi mx:Option xM):Option xM:=
 bs (mx.isSome&& !hi.isSome) none (O1 E A t x lo hi mx)
section
variable{P:Program}{E:aq}(ok:E.Ok P){w0 w:World}{β:af}{A:AW}(inv:Inv w0 E.G β A w)
include inv ok
omit ok in
theorem Vf{B:Nat}{cs:List xM}{es:Nat}(h:JK A B=some (cs,es)){l:Loc}(hl:β B=some l):l.es=es∧l.d+cs.length≤l.sz:=by
 unfold JK at h;split at h
 ·rename_i hg;cases h;obtain⟨av,e,fz,_,_,h3,_,_,_,h7⟩:=inv.cont B _ l hg hl;exact⟨h7.1,h3⟩
 ·cases h
omit inv ok in
theorem UK(s:List UInt8)(l h:Nat):(⟨⟨s⟩⟩:ByteArray).extract l h=⟨⟨(s.drop l).take (h - l)⟩⟩:=by
 apply ByteArray.ext;rw[ByteArray.data_extract];apply Array.ext';simp[Array.toList_extract]
theorem aO4{t:xN}{x x' v:xM}{lo hi mx lo' hi' mx':Option xM}(h:O1 E A t x lo hi mx=some v)(hx:ai β x x')(ij:nh β lo lo')(im:nh β hi hi')(lU:nh β mx mx')(uH:mx.isSome=true→hi.isSome=true):
 ∃v',(Instr.sliceAt t x' lo' hi' mx').run P w= .ok v' w∧ai β v v':=by
 unfold O1 at h;split at h
 ·rename_i _ _ _ _ s hr;have hu:=(ok.ti t _ hr).1;split at h
  ·cases h
  ·split at h
   ·rename_i l hh m hb;split at h
    ·rename_i r bK;cases h;cases hx;have SA:mx'=none:=by cases mx' with|none=>rfl|some _=>exact lU.elim
     subst SA;rw[dA] at hb;obtain⟨⟨m',aJ,_⟩,IG,AK,AF⟩:=tw (P:=P) (cap':=s.length) hb ij im (show nh β none none from trivial) (xk _) (xk _) (fun e=>by cases e) false w;rw[Db] at bK;obtain⟨rfl,_⟩:=C9 _ _ _ bK;refine⟨_,?_,.string _⟩;have aT:(⟨⟨s⟩⟩:ByteArray).size=s.length:=rfl;simp[Instr.sliceAt,run_underlying hu,Instr.slice,aT,aJ,UK]
    ·cases h
   ·cases h
 ·rename_i kp _ _ _ _ hr;have hu:=(ok.ti t _ hr).1;split at h
  ·rename_i r hb bK;cases h;cases hx;obtain⟨⟨m',aJ,rB,eV,_⟩,_⟩:=tw (P:=P) (cap':=0) hb ij im lU (xk _) (xk _) uH true w;have:m'=0:=by omega
   subst this;exact⟨.slice none 0 0,by simp[Instr.sliceAt,run_underlying hu,Instr.slice,aJ,dC ok bK],.uZ⟩
  ·cases h
 ·rename_i kp _ _ _ _ B o n c hr;have hu:=(ok.ti t _ hr).1;split at h
  ·rename_i l hh m r hb bK;replace h:=au h;rcases h with⟨Nm,h⟩|⟨_,h⟩
   ·have dj5:=xh Nm;replace h:=au h;rcases h with⟨qy,h⟩|⟨qy,h⟩
    ·have au8:=xb qy;subst au8;cases h;cases hx with
     |slice _ _ _ _ c' lc cR hn hc he=>
      obtain⟨⟨m',aJ,rB,eV,_⟩,_,AK,AF⟩:=tw (P:=P) hb ij im lU hn hc uH true w;refine⟨.slice (some ⟨lc.b,lc.d+o,none⟩) hh m',?_,.slice B o hh m m' lc cR AK rB (xH (Nat.add_le_add_left (xD _ eV) _) he)⟩;simp[Instr.sliceAt,run_underlying hu,Instr.slice,aJ,dC ok bK,Addr.add]
     |empty _ a' c'=>
      obtain⟨⟨m',aJ,rB,eV,_⟩,_,AK,AF⟩:=tw (P:=P) (cap':=c') hb ij im lU (xk _) (xL _) uH true w;obtain rfl:hh=0:=by omega
      obtain rfl:m=0:=by omega
      refine⟨.slice (some a') 0 m',?_,.empty o a' m'⟩;simp[Instr.sliceAt,run_underlying hu,Instr.slice,aJ,dC ok bK,Addr.add]
    ·have au8: ¬l=0:=fun e=>by subst e;cases qy
     replace h:=au h;rcases h with⟨AH,h⟩|⟨AH,h⟩
     ·have au4:=xb AH;subst au4;cases h;cases hx with
      |slice _ _ _ _ c' lc cR hn hc he=>
       obtain⟨⟨m',aJ,rB,eV,_⟩,IG,AK,AF⟩:=tw (P:=P) hb ij im lU hn hc uH true w;have:hh=l:=by omega
       subst this;by_cases pY:m'=hh
       ·exact⟨.slice (some ⟨lc.b,lc.d+o,none⟩) 0 0,by simp[Instr.sliceAt,run_underlying hu,Instr.slice,aJ,dC ok bK,pY],.empty 0 _ _⟩
       ·exact⟨.slice (some ((⟨lc.b,lc.d+o,none⟩:Addr).add (hh*r.size))) 0 (m' - hh),by simp[Instr.sliceAt,run_underlying hu,Instr.slice,aJ,dC ok bK,pY],.empty 0 _ _⟩
      |empty _ a' c'=>
       obtain⟨⟨m',aJ,rB,eV,_⟩,IG,AK,AF⟩:=tw (P:=P) (cap':=c') hb ij im lU (xk _) (xL _) uH true w;omega
     ·have au4: ¬l=m:=fun e=>by subst e;rw[na] at AH;simp at AH
      split at h
      ·rename_i es hw;replace h:=au h;rcases h with⟨cz,h⟩|⟨_,h⟩
       ·have sN:=xb cz;subst sN;cases h;cases hx with
        |slice _ _ _ _ c' lc cR hn hc he=>
         obtain⟨⟨m',aJ,rB,eV,_⟩,IG,AK,AF⟩:=tw (P:=P) hb ij im lU hn hc uH true w;obtain⟨SG,_⟩:=Vf inv hw cR;have pY: ¬m'=l:=by omega
         refine⟨.slice (some ⟨lc.b,lc.d+(o+l*r.size),none⟩) (hh - l) (m' - l),?_,.slice B (o+l*r.size) (hh - l) (m - l) (m' - l) lc cR (by omega) (by omega) ?_⟩
         ·simp[Instr.sliceAt,run_underlying hu,Instr.slice,aJ,dC ok bK,pY,Addr.add_lit,Nat.add_assoc]
         ·rw[SG] at he⊢;have:l*r.size+(m' - l)*r.size=m'*r.size:=by rw[←Nat.add_mul];congr 1;omega
          have h2:m'*r.size≤c'*r.size:=xD _ eV;omega
        |empty _ a' c'=>
         obtain⟨⟨m',aJ,rB,eV,_⟩,IG,AK,AF⟩:=tw (P:=P) (cap':=c') hb ij im lU (xk _) (xL _) uH true w;omega
       ·cases h
      ·cases h
   ·cases h
  ·cases h
 ·rename_i kp _ _ _ _ B hr;have hu:=(ok.ti t _ hr).1;split at h
  ·rename_i kh;split at h
   ·rename_i c es ex ro ty r hg bK;cases h;cases hx with
    |raw _ n cap l hl hn ho=>
     have cO0:lo'=none:=by cases lo' with|none=>rfl|some _=>exact ij.elim
     have SA:mx'=none:=by cases mx' with|none=>rfl|some _=>exact lU.elim
     subst cO0;subst SA;obtain⟨x0,rfl,rq⟩:∃x0,hi'=some x0∧ai β (.int kh (.ofNat 0)) x0:=by cases hi' with|none=>exact im.elim|some x0=>exact⟨x0,rfl,im⟩
     cases rq;have aJ:(Instr.sliceBounds true n cap none (some (.int kh (.ofNat 0))) none).run P w= .ok (0,0,cap) w:=by
      have hB:u7 n cap none (some (.int kh (.ofNat 0))) none=some (0,0,cap):=by
       unfold u7 uT;have:Nat.ble 0 cap=true:=Nat.ble_eq_true_of_le (xL _);simp only [this,eg]
      obtain⟨⟨m',h1,_,_,h4⟩,_⟩:=tw (P:=P) (β:=β) (cap':=cap) hB (lo':=none) (hi':=some (.int kh (.ofNat 0))) (mx':=none) trivial (ai.int _ _) trivial hn (xk _) (fun e=>by cases e) true w;have e4:m'=cap:=(h4 rfl).symm;rw[e4] at h1;exact h1
     obtain⟨rows,hd,fE⟩:=inv.own B _ hg;have kx:β.d c=some (.sl rows):=by
      obtain⟨y,hy,h1⟩:=xr.1 (show(β.d c).bind (fun x=>if x.cell then some x else none)=_ from hd);split at h1<;>cases h1
      exact hy
     have xU:rows=[]:=by
      rcases fE with⟨e,_⟩|⟨l2,vC,_,e,_⟩
      ·exact e
      ·rw[ho] at e;injection e with e;injection e with _ e _;exact xE.1 e.symm
     subst xU;refine⟨.slice (some ⟨l.b,l.d,none⟩) 0 cap,?_,.own B c [] (some ⟨l.b,l.d,none⟩) cap ho (.inr ⟨l,hl,rfl⟩) kx⟩;simp only [Int.ofNat_eq_natCast,Int.natCast_zero] at aJ⊢;simp[Instr.sliceAt,run_underlying hu,Instr.slice,aJ,dC ok bK,Addr.add]
   ·cases h
  ·cases h
 ·rename_i n kp _ _ _ _ B o hr;have hu:=(ok.ti t _ hr).1;split at h
  ·rename_i l hh m r cs es hb bK hw;replace h:=au h;rcases h with⟨hc,h⟩|⟨_,h⟩
   ·rw[xf] at hc;have sN:=xb hc.1;subst sN;have aK:=xh hc.2;rw[dA] at aK;have yf:o+n*r.size≤cs.length:=aK;cases h;cases hx with
    |ptr _ _ lc cR=>
     obtain⟨⟨m',aJ,rB,eV,hme⟩,IG,AK,AF⟩:=tw (P:=P) (cap':=n) hb ij im lU (xk _) (xk _) uH false w;have:=hme rfl;subst this;obtain⟨SG,aT⟩:=Vf inv hw cR;have h2:m*r.size≤n*r.size:=xD _ AF;by_cases AH:l=m
     ·subst AH;have cx:Nat.beq l l=true:=by rw[na];simp
      rw[cx,eg];refine⟨.slice (some ⟨lc.b,lc.d+o,none⟩) (hh - l) (l - l),?_,.slice B o (hh - l) (l - l) (l - l) lc cR (by omega) (xk _) ?_⟩
      ·simp[Instr.sliceAt,run_underlying hu,Instr.sureAddr,aJ,dC ok bK]
      ·rw[Nat.sub_self,Nat.zero_mul];omega
     ·have cx:Nat.beq l m=false:=by rw[na];simpa using AH
      rw[cx,gN];refine⟨.slice (some ⟨lc.b,lc.d+(o+l*r.size),none⟩) (hh - l) (m - l),?_,.slice B (o+l*r.size) (hh - l) (m - l) (m - l) lc cR (by omega) (xk _) ?_⟩
      ·simp[Instr.sliceAt,run_underlying hu,Instr.sureAddr,aJ,dC ok bK,Addr.add_lit,Nat.add_assoc,Ne.symm AH]
      ·rw[SG];have:l*r.size+(m - l)*r.size=m*r.size:=by rw[←Nat.add_mul];congr 1;omega
       omega
   ·cases h
  ·cases h
 ·cases h
theorem aU8{t:xN}{x x' v:xM}{lo hi mx lo' hi' mx':Option xM}(h:Kc E A t x lo hi mx=some v)(hx:ai β x x')(ij:nh β lo lo')(im:nh β hi hi')(lU:nh β mx mx'):
 ∃v',(Instr.sliceAt t x' lo' hi' mx').run P w= .ok v' w∧ai β v v':=by
 unfold Kc at h;replace h:=au h;rcases h with⟨_,h2⟩|⟨kS,h2⟩
 ·cases h2
 refine aO4 ok inv h2 hx ij im lU (fun e=> ?_);rw[e] at kS;cases hq:hi.isSome with
 |true=>rfl
 |false=>rw[hq] at kS;cases kS
end
def vE(a:List UInt8):List UInt8→Bool:=
 List.rec (motive:=fun _=>List UInt8→Bool) (fun b=>List.rec (motive:=fun _=>Bool) true (fun _ _ _=>false) b)
  (fun x _ ih b=>List.rec (motive:=fun _=>Bool) false (fun y t _=>bs (Nat.beq x.toNat y.toNat) (ih t) false) b) a
theorem zb(a:List UInt8):∀b,vE a b=decide (a=b):=by
 induction a with
 |nil=>intro b;cases b<;>rfl
 |cons x a ih=>
  intro b;cases b with
  |nil=>rfl
  |cons y b=>
   show bs (Nat.beq x.toNat y.toNat) (vE a b) false=_;rw[na];by_cases h:x=y
   ·subst h;rw[decide_eq_true rfl,eg,ih];simp
   ·have: ¬x.toNat=y.toNat:=fun e=>h (UInt8.toNat_inj.1 e)
    rw[decide_eq_false this,gN];simp[h]
def rP(l:List (Nat×List xO))(t:Nat):Option (List xO):=
 List.rec (motive:=fun _=>Option (List xO)) none (fun p _ ih=>bs (Nat.beq p.1 t) (some p.2) ih) l
def pJ(a b:List xM):Option Bool:=match a,b with|[],[]=>some true|_,_=>none
def nS(k:xO)(ih:List xM→List xM→Option Bool)(a b:List xM):Option Bool:=
 match a,b with
 | .int j m::a,.int j' n::b=>bs (dE j k&&dE j' k) (match ih a b with|some r=>some (bs (mQ m n) r false)|none=>none) none
 |_,_=>none
def gW(ks:List xO):List xM→List xM→Option Bool:=
 List.rec (motive:=fun _=>List xM→List xM→Option Bool) pJ (fun k _ ih=>nS k ih) ks
structure aq.Seq (E:aq) (P:Program) (sq:List (Nat×List xO)):Prop where
 eq:∀t ks a b r,rP sq t=some ks→gW ks a b=some r→∀w,(Op.equal t (.agg ⟨a⟩) (.agg ⟨b⟩)).run P w= .ok r w
 guard:∀t ks,rP sq t=some ks→P.eqGuardType P.depth t=false
 und:∀t ks,rP sq t=some ks→∃d,P.underlying t=some d
 key:∀t ks a,rP sq t=some ks→gW ks a a=some true→∀em w,(Instr.checkKey em 10000 t (.agg ⟨a⟩)).run P w= .ok () w
theorem Jp{β:af}:∀(ks:List xO) (a b a' b':List xM) (r:Bool),gW ks a b=some r→aP β a a'→aP β b b'→a'=a∧b'=b
 |[],a,b,a',b',r,h,ha,hb=>by
  have h':pJ a b=some r:=h;clear h;unfold pJ at h';split at h'
  ·exact⟨ha.oo,hb.oo⟩
  ·cases h'
 |k::ks,a,b,a',b',r,h,ha,hb=>by
  have h':nS k (gW ks) a b=some r:=h;clear h;unfold nS at h';split at h'
  ·rename_i j m a j' n b;replace h':=au h';rcases h' with⟨_,h'⟩|⟨_,h'⟩
   ·split at h'
    ·rename_i r2 bK;obtain⟨v,l,rfl,hv,hl⟩:=ha.l5;obtain⟨v2,l2,rfl,cM,bG⟩:=hb.l5;obtain⟨e1,e2⟩:=Jp ks a b l l2 r2 bK hl bG;cases hv;cases cM;rw[e1,e2];exact⟨rfl,rfl⟩
    ·cases h'
   ·cases h'
  ·cases h'
def tg(E:aq)(sq:List (Nat×List xO))(t:xN)(x y:xM):Option Bool:=
 match x,y with
 | .bool a,.bool b=>match E.ti.get none t with|some ⟨.bool,_,_,_,_⟩=>some (bs a b (not b))|_=>none
 | .pointer none,.pointer none=>match E.ti.get none t with|some ⟨.pointer _,_,_,_,_⟩=>some true|_=>none
 | .pointer none,.pointer (some _)=>match E.ti.get none t with|some ⟨.pointer _,_,_,_,_⟩=>some false|_=>none
 | .pointer (some _),.pointer none=>match E.ti.get none t with|some ⟨.pointer _,_,_,_,_⟩=>some false|_=>none
 | .pointer (some ⟨B,o,none⟩),.pointer (some ⟨B',o',none⟩)=>
  match E.ti.get none t with
  |some ⟨.pointer e,_,_,_,_⟩=>match E.ti.get none e with
   |some r=>bs (Nat.beq r.size 0) none (bs (Nat.beq B B') (some (Nat.beq o o')) none)
   |none=>none
  |_=>none
 | .slice none _ _,.slice none _ _=>match E.ti.get none t with|some ⟨.slice _,_,_,_,_⟩=>some true|_=>none
 | .slice none _ _,.slice (some _) _ _=>match E.ti.get none t with|some ⟨.slice _,_,_,_,_⟩=>some false|_=>none
 | .slice (some _) _ _,.slice none _ _=>match E.ti.get none t with|some ⟨.slice _,_,_,_,_⟩=>some false|_=>none
 | .map none,.map none=>match E.ti.get none t with|some ⟨.map _ _,_,_,_,_⟩=>some true|_=>none
 | .map none,.map (some _)=>match E.ti.get none t with|some ⟨.map _ _,_,_,_,_⟩=>some false|_=>none
 | .map (some _),.map none=>match E.ti.get none t with|some ⟨.map _ _,_,_,_,_⟩=>some false|_=>none
 | .nilFunc,.nilFunc=>match E.ti.get none t with|some ⟨.func _ _ _,_,_,_,_⟩=>some true|_=>none
 | .nilFunc,.func _ _ _=>match E.ti.get none t with|some ⟨.func _ _ _,_,_,_,_⟩=>some false|_=>none
 | .func _ _ _,.nilFunc=>match E.ti.get none t with|some ⟨.func _ _ _,_,_,_,_⟩=>some false|_=>none
 | .agg ⟨a⟩,.agg ⟨b⟩=>match rP sq t with|some ks=>gW ks a b|none=>none
 |_,_=>none
theorem p7(t:xN)(x y:xM):Op.equal t x y=Op.equalIn (9999+1) t x y:=rfl
section
variable{P:Program}{E:aq}(ok:E.Ok P){sq:List (Nat×List xO)}(ba:E.Seq P sq){β:af}
include ok ba
theorem ab6{t:xN}{x y x' y':xM}{r:Bool}(h:tg E sq t x y=some r)(hx:ai β x x')(hy:ai β y y')(w:World):
 (Op.equal t x' y').run P w= .ok r w∧(∀op p q,(eqGuard op t p q x' y').run P w= .ok () w)∧(∀op,op= .eql∨op= .neq→binOp op t x' y'=match op with| .eql=>(do pure (.bool (←Op.equal t x' y')))|_=>(do pure (.bool (!(←Op.equal t x' y'))))):=by
 unfold tg at h;split at h
 ·rename_i a b;split at h<;>cases h
  rename_i hr;cases hx;cases hy;have hu:=(ok.ti t _ hr).1;refine⟨?_,fun op p q=> ?_,fun op ho=>by rcases ho with rfl|rfl<;>rfl⟩
  ·rw[p7,Op.equalIn];cases a<;>cases b<;>simp[run_underlying hu,bs]
  ·cases op<;>simp[eqGuard]
 ·split at h<;>cases h
  rename_i hr;have hu:=(ok.ti t _ hr).1;cases hx<;>cases hy<;>
  (refine⟨?_,fun op p q=> ?_,fun op ho=>by rcases ho with rfl|rfl<;>rfl⟩
   ·rw[p7,Op.equalIn];simp[run_underlying hu]
   ·cases op<;>simp[eqGuard])
 ·split at h<;>cases h
  rename_i hr;have hu:=(ok.ti t _ hr).1;cases hx<;>cases hy<;>
  (refine⟨?_,fun op p q=> ?_,fun op ho=>by rcases ho with rfl|rfl<;>rfl⟩
   ·rw[p7,Op.equalIn];simp[run_underlying hu]
   ·cases op<;>simp[eqGuard])
 ·split at h<;>cases h
  rename_i hr;have hu:=(ok.ti t _ hr).1;cases hx<;>cases hy<;>
  (refine⟨?_,fun op p q=> ?_,fun op ho=>by rcases ho with rfl|rfl<;>rfl⟩
   ·rw[p7,Op.equalIn];simp[run_underlying hu]
   ·cases op<;>simp[eqGuard])
 ·rename_i B o B' o';split at h
  ·rename_i e _ _ _ _ hr;split at h
   ·rename_i re dG;replace h:=au h;rcases h with⟨_,h⟩|⟨hz,h⟩
    ·cases h
    replace h:=au h;rcases h with⟨hB,h⟩|⟨hz,h⟩
    ·have te:=xb hB;subst te;cases h;rw[na] at hz;have Cu: ¬re.size=0:=by simpa using hz
     cases hx with
     |ptr _ _ l hl=>
      cases hy with
      |ptr _ _ l' ee=>
       rw[hl] at ee;cases ee;have hu:=(ok.ti t _ hr).1;refine⟨?_,fun op p q=> ?_,fun op ho=>by rcases ho with rfl|rfl<;>rfl⟩
       ·rw[p7,Op.equalIn];simp[run_underlying hu,dC ok dG,Cu,sameAddr,na,Bool.beq_eq_decide_eq]
       ·cases op<;>simp[eqGuard]
    ·cases h
   ·cases h
  ·cases h
 ·split at h<;>cases h
  rename_i hr;have hu:=(ok.ti t _ hr).1;cases hx<;>cases hy<;>
  (refine⟨?_,fun op p q=> ?_,fun op ho=>by rcases ho with rfl|rfl<;>rfl⟩
   ·rw[p7,Op.equalIn];simp[run_underlying hu]
   ·cases op<;>simp[eqGuard])
 ·split at h<;>cases h
  rename_i hr;have hu:=(ok.ti t _ hr).1;cases hx<;>cases hy<;>
  (refine⟨?_,fun op p q=> ?_,fun op ho=>by rcases ho with rfl|rfl<;>rfl⟩
   ·rw[p7,Op.equalIn];simp[run_underlying hu]
   ·cases op<;>simp[eqGuard])
 ·split at h<;>cases h
  rename_i hr;have hu:=(ok.ti t _ hr).1;cases hx<;>cases hy<;>
  (refine⟨?_,fun op p q=> ?_,fun op ho=>by rcases ho with rfl|rfl<;>rfl⟩
   ·rw[p7,Op.equalIn];simp[run_underlying hu]
   ·cases op<;>simp[eqGuard])
 ·split at h<;>cases h
  rename_i hr;have hu:=(ok.ti t _ hr).1;cases hx<;>cases hy<;>
  (refine⟨?_,fun op p q=> ?_,fun op ho=>by rcases ho with rfl|rfl<;>rfl⟩
   ·rw[p7,Op.equalIn];simp[run_underlying hu]
   ·cases op<;>simp[eqGuard])
 ·split at h<;>cases h
  rename_i hr;have hu:=(ok.ti t _ hr).1;cases hx<;>cases hy<;>
  (refine⟨?_,fun op p q=> ?_,fun op ho=>by rcases ho with rfl|rfl<;>rfl⟩
   ·rw[p7,Op.equalIn];simp[run_underlying hu]
   ·cases op<;>simp[eqGuard])
 ·split at h<;>cases h
  rename_i hr;have hu:=(ok.ti t _ hr).1;cases hx<;>cases hy<;>
  (refine⟨?_,fun op p q=> ?_,fun op ho=>by rcases ho with rfl|rfl<;>rfl⟩
   ·rw[p7,Op.equalIn];simp[run_underlying hu]
   ·cases op<;>simp[eqGuard])
 ·split at h<;>cases h
  rename_i hr;have hu:=(ok.ti t _ hr).1;cases hx<;>cases hy<;>
  (refine⟨?_,fun op p q=> ?_,fun op ho=>by rcases ho with rfl|rfl<;>rfl⟩
   ·rw[p7,Op.equalIn];simp[run_underlying hu]
   ·cases op<;>simp[eqGuard])
 ·split at h<;>cases h
  rename_i hr;have hu:=(ok.ti t _ hr).1;cases hx<;>cases hy<;>
  (refine⟨?_,fun op p q=> ?_,fun op ho=>by rcases ho with rfl|rfl<;>rfl⟩
   ·rw[p7,Op.equalIn];simp[run_underlying hu]
   ·cases op<;>simp[eqGuard])
 ·split at h<;>cases h
  rename_i hr;have hu:=(ok.ti t _ hr).1;cases hx<;>cases hy<;>
  (refine⟨?_,fun op p q=> ?_,fun op ho=>by rcases ho with rfl|rfl<;>rfl⟩
   ·rw[p7,Op.equalIn];simp[run_underlying hu]
   ·cases op<;>simp[eqGuard])
 ·rename_i a b;split at h
  ·rename_i ks gZ;cases hx with
   |agg _ p' hp h1=>
    cases hy with
    |agg _ q' hq h2=>
     obtain⟨rfl,rfl⟩:=Jp ks a b p' q' r h ⟨hp,h1⟩ ⟨hq,h2⟩;refine⟨ba.eq t ks _ _ r gZ h w,fun op p q=> ?_,fun op ho=>by rcases ho with rfl|rfl<;>rfl⟩;have hg:=ba.guard t ks gZ;cases op<;>simp[eqGuard,program,Sem.run,hg]
  ·cases h
 ·cases h
end
def fm(E:aq)(sq:List (Nat×List xO))(op:BinOp)(t:xN)(x y:xM):Option xM:=
 match x,y with
 | .int k a,.int k' b=>Ca op k a k' b
 | .string ⟨⟨a⟩⟩,.string ⟨⟨b⟩⟩=>match op with
  | .eql=>some (.bool (vE a b))
  | .neq=>some (.bool (not (vE a b)))
  | .add=>bs (Nat.ble (Nat.add (bI a) (bI b)) 9223372036854775807) (some (.string ⟨⟨aa a b⟩⟩)) none
  |_=>none
 |x,y=>match op with
  | .eql=>(tg E sq t x y).map .bool
  | .neq=>(tg E sq t x y).map fun b=> .bool (not b)
  |_=>none
def ZN(op:BinOp):xO→Int→xO→Int→Option xM:=
 match op with
 | .add=>fun k a k' b=>bs (dE k k') (some (.int k (iM k (Int.add a b)))) none
 | .sub=>fun k a k' b=>bs (dE k k') (some (.int k (iM k (Int.sub a b)))) none
 | .mul=>fun k a k' b=>bs (dE k k') (some (.int k (iM k (Int.mul a b)))) none
 | .and=>fun k a k' b=>bs (dE k k') ((nW .and k a b).map (.int k)) none
 | .or=>fun k a k' b=>bs (dE k k') ((nW .or k a b).map (.int k)) none
 | .xor=>fun k a k' b=>bs (dE k k') ((nW .xor k a b).map (.int k)) none
 | .eql=>fun k a k' b=>bs (dE k k') (some (.bool (mQ a b))) none
 | .neq=>fun k a k' b=>bs (dE k k') (some (.bool (not (mQ a b)))) none
 | .lss=>fun k a k' b=>bs (dE k k') (some (.bool (iH a b))) none
 | .leq=>fun k a k' b=>bs (dE k k') (some (.bool (not (iH b a)))) none
 | .gtr=>fun k a k' b=>bs (dE k k') (some (.bool (iH b a))) none
 | .geq=>fun k a k' b=>bs (dE k k') (some (.bool (not (iH a b)))) none
 |op=>Ca op
theorem aX5(op:BinOp)(k:xO)(a:Int)(k':xO)(b:Int):ZN op k a k' b=Ca op k a k' b:=by cases op<;>rfl
abbrev aE9:=xO→Int→aq→List (Nat×List xO)→BinOp→xN→Option xM
def cv3(y:xM):aE9:=
 DO (ρ:=aE9) (fun _ v k a E sq op t=>fm E sq op t (.int k a) v) (fun k' b _ k a _ _ op _=>ZN op k a k' b) (fun _ v k a E sq op t=>fm E sq op t (.int k a) v) (fun _ v k a E sq op t=>fm E sq op t (.int k a) v)
  (fun _ _ _ v k a E sq op t=>fm E sq op t (.int k a) v) (fun _ v k a E sq op t=>fm E sq op t (.int k a) v) (fun v k a E sq op t=>fm E sq op t (.int k a) v) y y
abbrev cv7:=aq→List (Nat×List xO)→BinOp→xN→xM→Option xM
def S4(E:aq)(sq:List (Nat×List xO))(op:BinOp)(t:xN)(x y:xM):Option xM:=
 DO (ρ:=cv7) (fun _ v E sq op t y=>fm E sq op t v y) (fun k a _ E sq op t y=>cv3 y k a E sq op t) (fun _ v E sq op t y=>fm E sq op t v y) (fun _ v E sq op t y=>fm E sq op t v y)
  (fun _ _ _ v E sq op t y=>fm E sq op t v y) (fun _ v E sq op t y=>fm E sq op t v y) (fun v E sq op t y=>fm E sq op t v y) x x E sq op t y
theorem bh5(E:aq)(sq:List (Nat×List xO))(op:BinOp)(t:xN)(x y:xM):S4 E sq op t x y=fm E sq op t x y:=by
 cases x with
 |int k a=>cases y with
  |int k' b=>exact aX5 op k a k' b
  |_=>rfl
 |_=>rfl
theorem aS2(a b:List UInt8):(⟨⟨a⟩⟩:ByteArray)++(⟨⟨b⟩⟩:ByteArray)=⟨⟨a++b⟩⟩:=by
 apply ByteArray.ext;rw[ByteArray.data_append];apply Array.ext';simp
section
variable{P:Program}{E:aq}(ok:E.Ok P){sq:List (Nat×List xO)}(ba:E.Seq P sq){β:af}
include ok ba
theorem rM{op:BinOp}{t:xN}{x y x' y' v:xM}(h:fm E sq op t x y=some v)(hx:ai β x x')(hy:ai β y y')(p q:Operand)(w:World):
 ∃v',(do eqGuard op t p q x' y';binOp op t x' y':Sem xM).run P w= .ok v' w∧ai β v v':=by
 unfold fm at h;split at h
 ·rename_i k a k' b;cases hx;cases hy;obtain⟨h1,h2⟩:=bf7 h t P w;refine⟨v,?_,h2 β⟩;have hg:(eqGuard op t p q (.int k a) (.int k' b)).run P w= .ok () w:=by cases op<;>simp[eqGuard]
  simp[hg,h1]
 ·rename_i a b;cases hx;cases hy;have hg:(eqGuard op t p q (.string ⟨⟨a⟩⟩) (.string ⟨⟨b⟩⟩)).run P w= .ok () w:=by cases op<;>simp[eqGuard]
  split at h
  ·cases h;refine⟨_,?_,.bool _⟩;rw[zb];simp[hg,binOp,Op.stringOp,ByteArray.toList_eq,Bool.beq_eq_decide_eq]
  ·cases h;refine⟨_,?_,.bool _⟩;rw[zb];simp[hg,binOp,Op.stringOp,ByteArray.toList_eq,Bool.beq_eq_decide_eq]
  ·replace h:=au h;rcases h with⟨hb,h⟩|⟨_,h⟩
   ·cases h;have aK:=xh hb;rw[dA,dA] at aK;have yf:a.length+b.length≤9223372036854775807:=aK;refine⟨_,?_,.string _⟩;rw[jm];have aT:(⟨⟨a⟩⟩:ByteArray).size=a.length:=rfl;have Sr:(⟨⟨b⟩⟩:ByteArray).size=b.length:=rfl;have hm:IntKind.i64.max=9223372036854775807:=rfl;have gX: ¬(9223372036854775807:Int)<(a.length:Int)+(b.length:Int):=by omega
    simp[hg,binOp,Op.stringOp,aT,Sr,hm,gX,aS2]
   ·cases h
  ·cases h
 ·rename_i h1 h2;split at h
  ·obtain⟨r,hr,rfl⟩:=xp.1 h;obtain⟨e1,e2,e3⟩:=ab6 ok ba hr hx hy w;refine⟨.bool r,?_,.bool _⟩;have e4:=e3 .eql (.inl rfl);simp only at e4;simp[e2,e4,e1]
  ·obtain⟨r,hr,rfl⟩:=xp.1 h;obtain⟨e1,e2,e3⟩:=ab6 ok ba hr hx hy w;refine⟨.bool (!r),?_,.bool _⟩;have e4:=e3 .neq (.inr rfl);simp only at e4;simp[e2,e4,e1]
  ·cases h
end
def BQ(E:aq)(s d:xN)(x:xM):Option xM:=
 match E.ti.get none s,E.ti.get none d,x with
 |some _,some ⟨.int k,_,_,_,_⟩,.int _ n=>some (.int k (iM k n))
 |some _,some ⟨.string,_,_,_,_⟩,.string b=>some (.string b)
 |_,_,_=>none
def R0(E:aq)(A:AW)(t:xN)(x:xM):Option xM:=
 match E.ti.get none t,x with
 |some ⟨.string,_,_,_,_⟩,.string ⟨⟨l⟩⟩=>some (.int .i64 (.ofNat (bI l)))
 |some ⟨.slice _,_,_,_,_⟩,.slice _ n _=>some (.int .i64 (.ofNat n))
 |some ⟨.array n _,_,_,_,_⟩,_=>some (.int .i64 (.ofNat n))
 |some ⟨.map _ _,_,_,_,_⟩,.map none=>some (.int .i64 0)
 |some ⟨.map _ _,_,_,_,_⟩,.map (some B)=>match A.get B with
  |some ⟨.map es _,_,_,_,_⟩=>some (.int .i64 (.ofNat (bI es)))
  |_=>none
 |_,_=>none
section
variable{P:Program}{E:aq}(ok:E.Ok P){w0 w:World}{β:af}{A:AW}(inv:Inv w0 E.G β A w)
include ok
theorem PB{s d:xN}{x x' v:xM}(h:BQ E s d x=some v)(hx:ai β x x')(w:World):∃v',(convert s d x').run P w= .ok v' w∧ai β v v':=by
 unfold BQ at h;split at h
 ·rename_i hs hd;cases h;cases hx;have h1:=(ok.ti s _ hs).1;have h2:=(ok.ti d _ hd).1;refine⟨_,?_,.int _ _⟩;rw[mX];simp[convert,run_underlying h1,run_underlying h2,Conv.intToInt]
 ·rename_i r _ _ _ _ _ hs hd;cases h;cases hx;have h1:=(ok.ti s _ hs).1;have h2:=(ok.ti d _ hd).1;refine⟨_,?_,.string _⟩;cases hr:r.desc<;>rw[hr] at h1<;>simp[convert,run_underlying h1,run_underlying h2]
 ·cases h
include inv
theorem bo6{t ty:xN}{x x' v:xM}(h:R0 E A t x=some v)(hx:ai β x x'):∃v',(Builtin.len_ #[t] ty #[x']).run P w= .ok v' w∧ai β v v':=by
 unfold R0 at h;split at h
 ·rename_i hr;cases h;cases hx;have hu:=(ok.ti t _ hr).1;refine⟨_,?_,.int _ _⟩;rw[dA];simp[Builtin.len_,run_underlying hu,goInt];rfl
 ·rename_i hr;cases h;have hu:=(ok.ti t _ hr).1;cases hx<;>exact⟨_,by simp[Builtin.len_,run_underlying hu,goInt],.int _ _⟩
 ·rename_i hr;cases h;have hu:=(ok.ti t _ hr).1;exact⟨_,by simp[Builtin.len_,run_underlying hu,goInt],.int _ _⟩
 ·rename_i hr;cases h;cases hx;have hu:=(ok.ti t _ hr).1;exact⟨_,by simp[Builtin.len_,run_underlying hu,goInt],.int _ _⟩
 ·rename_i B hr;have hu:=(ok.ti t _ hr).1;split at h
  ·rename_i es ck _ _ _ _ hg;cases h;cases hx with
   |map _ l hl=>
    obtain⟨ax,h1,h2,_⟩:=inv.cont B _ l hg hl;refine⟨_,?_,.int _ _⟩;rw[dA,h2];simp[Builtin.len_,run_underlying hu,goInt,getObj,Sem.run,h1]
  ·cases h
 ·cases h
end
def jV(l:List xM):Nat→List xM→List xM:=
 List.rec (motive:=fun _=>Nat→List xM→List xM) (fun _ cs=>cs) (fun v _ ih o cs=>ih (Nat.add o 1) (EM cs o v)) l
theorem aK9(o:Nat)(cs:List xM):jV [] o cs=cs:=rfl
theorem F5(v:xM)(l:List xM)(o:Nat)(cs:List xM):jV (v::l) o cs=jV l (o+1) (cs.set o v):=by
 show jV l (o+1) (EM cs o v)=_;rw[JW]
theorem NR(l:List xM):∀(o:Nat) (cs:List xM),(jV l o cs).length=cs.length:=by
 induction l with
 |nil=>intros;rfl
 |cons v l ih=>intro o cs;rw[F5,ih];simp
theorem aL0(l:List xM):∀(o:Nat) (cs:List xM) (i:Nat),o+l.length≤cs.length→
 (jV l o cs)[i]? =if o≤i∧i<o+l.length then l[i - o]? else cs[i]? :=by
 induction l with
 |nil=>intro o cs i _;rw[aK9,if_neg (fun e=>by simp at e;omega)]
 |cons v l ih=>
  intro o cs i h;rw[xi] at h;rw[F5,ih (o+1) _ i (by simp;omega),xi];by_cases h1:o+1≤i∧i<o+1+l.length
  ·rw[if_pos h1,if_pos (by omega)];rw[show i - o=(i - (o+1))+1 by omega];simp
  ·rw[if_neg h1];by_cases h2:o=i
   ·subst h2;rw[if_pos (by omega),List.getElem?_set_self (by omega)];simp
   ·rw[if_neg (by omega),List.getElem?_set_ne h2]
theorem aK8{β:af}{l l':List xM}(h:aP β l l'):∀(o:Nat) {cs bC:List xM},aP β cs bC→aP β (jV l o cs) (jV l' o bC):=by
 induction l generalizing l' with
 |nil=>intro o cs bC hc;rw[h.oo];exact hc
 |cons v l ih=>
  intro o cs bC hc;obtain⟨v',r,rfl,hv,hr⟩:=h.l5;rw[F5,F5];exact ih hr (o+1) (hc.set o hv)
def Bi(v:xM):Option (List xM):=
 match v with
 | .agg ⟨l⟩=>some l
 | .chan (some (_+1))=>some [v]
 | .chan _=>none
 | .tuple _=>none
 |v=>some [v]
def one(v:xM):Bool:=
 match v with
 | .agg _=>false
 | .chan (some (_+1))=>true
 | .chan _=>false
 | .tuple _=>false
 |_=>true
theorem Gh{z:Nat→Option (Array xM)}{d:D}{v:xM}(h:Rd z d v)(hc:d.cell=true):v.cells=⟨[v]⟩∧v.oneCell'=true:=by
 cases h<;>first|exact⟨rfl,rfl⟩|cases hc
theorem NZ{β:af}{x x':xM}{l:List xM}(h:Bi x=some l)(hx:ai β x x'):∃l',x'.cells=⟨l'⟩∧aP β l l':=by
 unfold Bi at h;split at h
 ·cases h;cases hx with
  |agg _ p' hp h1=>exact⟨p',rfl,hp,h1⟩
 ·cases h;refine⟨[x'],?_,aP.cons hx (aP.nil β)⟩;cases hx with
  |sym c d _ h2 hc hr=>exact(Gh hr hc).1
 ·cases h
 ·cases h
 ·cases h;rename_i h1 h2 h3 h4;refine⟨[x'],?_,aP.cons hx (aP.nil β)⟩;cases hx<;>first|rfl|exact absurd rfl (h1 _)|exact absurd rfl (h2 _)|exact absurd rfl (h3 _)|exact absurd rfl (h4 _)
theorem WJ{β:af}{x x':xM}(h:one x=true)(hx:ai β x x'):x'.oneCell'=true:=by
 cases hx with
 |sym c d _ h2 hc hr=>exact(Gh hr hc).2
 |_=>first|rfl|cases h
theorem J9{β:af}{l l':List xM}(h:ey one l=true)(hl:aP β l l'):∀v∈l',v.oneCell'=true:=by
 intro v hv;obtain⟨i,hi,rfl⟩:=List.getElem_of_mem hv;have eI:i<l.length:=by rw[hl.1];exact hi
 exact WJ (nI one l h l[i] (List.getElem_mem eI)) (hl.2 i l[i] l'[i] (by simp[eI]) (by simp[hi]))
section
variable{P:Program}{E:aq}(ok:E.Ok P){w0 w:World}{β:af}{A:AW}(inv:Inv w0 E.G β A w)
def hO(w0:World)(G:GP)(β:af)(A:AW)(r:Result xM)(v:xM)(A':AW):Prop:=
 ∃ah v' w',r= .ok v' w'∧ai ah v v'∧Inv w0 G ah A' w'∧β.grow ah A.next
include inv in
theorem Vq(cs:List xM)(bC:List xM)(e:xN)(es:Nat)(ex:Bool)(hc:∀ah,β.le ah→aP ah cs bC):
 Inv w0 E.G (β.put A.next ⟨w.heap.size,0,es,bC.length⟩) (A.add ⟨.cells cs,es,ex,false,e⟩) (w.alloc (.cells ⟨bC⟩ e))∧β.grow (β.put A.next ⟨w.heap.size,0,es,bC.length⟩) A.next:=by
 have aK:β.le (β.put A.next ⟨w.heap.size,0,es,bC.length⟩):=inv.fX (af.wi β A.next _);have h:=hc _ aK;refine inv.new _ _ _ rfl ⟨⟨bC⟩,e,(0,0),rfl,rfl,by simp[h.1],fun i v hv=> ?_,fun _=>rfl,fun _=>by simp[h.1],rfl,fun _=>rfl⟩;obtain⟨v',dF,hr⟩:=h.get hv;exact⟨v',by simpa using dF,hr⟩
theorem jl(β:af)(n:Nat)(l:Loc):(β.put n l) n=some l:=by rw[af.rR,if_pos rfl]
def vm(β:af)(w:World)(N:Nat)(r:Result xM)(v:xM)(cs:List xM)(es:Nat)(e:xN):Prop:=
 ∃bC v',r= .ok v' (w.alloc (.cells ⟨bC⟩ e))∧aP β cs bC∧∀ah:af,ah N=some ⟨w.heap.size,0,es,bC.length⟩→ai ah v v'
include inv in
theorem vm.Mq{r:Result xM}{v:xM}{cs:List xM}{es:Nat}{e:xN}(h:vm β w A.next r v cs es e):hO w0 E.G β A r v (A.add ⟨.cells cs,es,true,false,e⟩):=by
 obtain⟨bC,v',h1,h2,h3⟩:=h;obtain⟨g1,g2⟩:=Vq inv cs bC e es true (fun ah hb=>h2.mono hb);exact⟨_,v',_,h1,h3 _ (jl _ _ _),g1,g2⟩
def zj(E:aq)(A:AW)(t:xN):Option (xM×AW):=
 match E.ti.get none t with
 |some r=>bs r.ri (some (.pointer (some ⟨A.next,0,none⟩),A.add ⟨.cells (ew pH r.zero),1,true,false,t⟩)) none
 |none=>none
include ok in
theorem We{t:xN}{v:xM}{A':AW}(h:zj E A t=some (v,A'))(β:af)(w:World):∃cs es e,A'=A.add ⟨.cells cs,es,true,false,e⟩∧vm β w A.next ((Instr.alloc t true (.tuple #[])).run P w) v cs es e:=by
 unfold zj at h;split at h
 ·rename_i r hr;replace h:=au h;rcases h with⟨hz,h⟩|⟨_,h⟩
  ·cases h;obtain⟨_,i,hi,_,_,dX⟩:=ok.ti t r hr;obtain⟨z,kR,Ft⟩:=dX hz;refine⟨_,_,_,rfl,r.zero,.pointer (some ⟨w.heap.size,0+0,none⟩),?_,A5 β _,fun ah hN=> .ptr A.next 0 _ hN⟩;simp[Instr.alloc,zeroValue,typeInfo,hi,kR,newVar,newRow,Ft]
  ·cases h
 ·cases h
include ok inv in
theorem ba9{t:xN}{v:xM}{A':AW}(h:zj E A t=some (v,A')):hO w0 E.G β A ((Instr.alloc t true (.tuple #[])).run P w) v A':=by
 obtain⟨cs,es,e,rfl,hf⟩:=We ok h β w;exact vm.Mq inv hf
def Ah(A:AW)(t:xN)(x:xM):Option (xM×AW):=
 match Bi x with
 |some l=>some (.pointer (some ⟨A.next,0,none⟩),A.add ⟨.cells l,1,true,false,t⟩)
 |none=>none
theorem XP{t:xN}{x x' v:xM}{A':AW}(h:Ah A t x=some (v,A'))(hx:ai β x x')(w:World):∃cs es e,A'=A.add ⟨.cells cs,es,true,false,e⟩∧vm β w A.next ((Instr.box t x').run P w) v cs es e:=by
 unfold Ah at h;split at h
 ·rename_i l hl;cases h;obtain⟨l',hc,hr⟩:=NZ hl hx;refine⟨_,_,_,rfl,l',.pointer (some ⟨w.heap.size,0+0,none⟩),?_,hr,fun ah hN=> .ptr A.next 0 _ hN⟩;simp[Instr.box,newVar,newRow,hc]
 ·cases h
include inv in
theorem bB6{t:xN}{x x' v:xM}{A':AW}(h:Ah A t x=some (v,A'))(hx:ai β x x'):hO w0 E.G β A ((Instr.box t x').run P w) v A':=by
 obtain⟨cs,es,e,rfl,hf⟩:=XP h hx w;exact vm.Mq inv hf
def BO(ve:Nat→Option (Nat×Nat))(ps:List (Nat×xM)):List xM→Option (List xM):=
 List.rec (motive:=fun _=>List xM→Option (List xM)) (fun cs=>some cs)
  (fun p _ ih cs=>match ve p.1,Bi p.2 with
   |some (off,size),some l=>bs (Nat.beq (bI l) size&&Nat.ble (Nat.add off (bI l)) (bI cs)) (ih (jV l off cs)) none
   |_,_=>none) ps
def E'(β:af):List (Nat×xM)→List (Nat×xM)→Prop
 |[],[]=>True
 |p::ps,q::qs=>p.1=q.1∧ai β p.2 q.2∧E' β ps qs
 |_,_=>False
theorem UI(off:Nat):∀(l:List xM) (k:Nat) (cs:List xM),(l.zipIdx k).foldl (fun(cs:Array xM) (p:xM×Nat)=>cs.setIfInBounds (off+p.2) p.1) ⟨cs⟩=⟨jV l (off+k) cs⟩
 |[],_,_=>rfl
 |v::l,k,cs=>by
  rw[List.zipIdx_cons,List.foldl_cons,F5];have:(⟨cs⟩:Array xM).setIfInBounds (off+k) v=⟨cs.set (off+k) v⟩:=by
   apply Array.ext';simp
  simp only [this];rw[UI off l (k+1)];rfl
theorem J1{β:af}{ve place':Nat→Option (Nat×Nat)}(hp:∀i p,ve i=some p→place' i=some p):∀(ps qs:List (Nat×xM)) (cs bC r:List xM),BO ve ps cs=some r→E' β ps qs→aP β cs bC→
 ∃r',Instr.fill place' ⟨bC⟩ qs=some ⟨r'⟩∧aP β r r'
 |[],qs,cs,bC,r,h,hq,hc=>by
  cases qs with
  |nil=>cases h;exact⟨bC,rfl,hc⟩
  |cons _ _=>exact hq.elim
 |p::ps,qs,cs,bC,r,h,hq,hc=>by
  cases qs with
  |nil=>exact hq.elim
  |cons q qs=>
   obtain⟨i,x⟩:=p;obtain⟨i',x'⟩:=q;obtain⟨hi,hx,oN⟩:=hq;have hi':i=i':=hi;subst hi';have h':(match ve i,Bi x with
    |some (off,size),some l=>bs (Nat.beq (bI l) size&&Nat.ble (Nat.add off (bI l)) (bI cs)) (BO ve ps (jV l off cs)) none
    |_,_=>none)=some r:=h
   clear h;split at h'
   ·rename_i off size l fV TJ;replace h':=au h';rcases h' with⟨hb,h'⟩|⟨_,h'⟩
    ·rw[xf,dA,dA] at hb;have aT:l.length=size:=xb hb.1;have aK:off+l.length≤cs.length:=xh hb.2;obtain⟨l',ee,ii⟩:=NZ TJ hx;obtain⟨r',dY,AD⟩:=J1 hp ps qs (jV l off cs) (jV l' off bC) r h' oN (aK8 ii off hc);refine⟨r',?_,AD⟩;have ZU:=UI off l' 0 bC;rw[Nat.add_zero] at ZU;have bp8:(⟨l'⟩:Array xM).zipIdx.foldl (fun(cs:Array xM) (p:xM×Nat)=>cs.setIfInBounds (off+p.2) p.1) ⟨bC⟩=⟨jV l' off bC⟩:=by
      rw[←ZU,←Array.foldl_toList];simp
     have fq:=ii.1;have s7:=hc.1;unfold Instr.fill;simp only [hp _ _ fV,ee];rw[if_neg (by simp;omega)];exact(congrArg (fun z=>Instr.fill place' z qs) bp8).trans dY
    ·cases h'
   ·cases h'
def Dt(E:aq)(fs:List Field)(i:Nat):Option (Nat×Nat):=
 match dB fs i with
 |some fd=>match E.ti.get none fd.type with|some r=>some (fd.offset,r.size)|none=>none
 |none=>none
def QH(E:aq)(fd:Field):Bool:=match E.ti.get none fd.type with|some _=>true|none=>false
def Ky(E:aq)(t:xN)(ps:List (Nat×xM)):Option xM:=
 match E.ti.get none t with
 |some ⟨.struct ⟨fs⟩,_,_,z,true⟩=>bs (ey (QH E) fs) (match BO (Dt E fs) ps (ew pH z) with|some r=>some (.agg ⟨r⟩)|none=>none) none
 |some ⟨.array _ e,_,_,z,true⟩=>match E.ti.get none e with
  |some re=>match BO (fun i=>some (Nat.mul i re.size,re.size)) ps (ew pH z) with|some r=>some (.agg ⟨r⟩)|none=>none
  |none=>none
 |_=>none
include ok in
theorem Vn:∀(fs:List Field),(∀fd∈fs,QH E fd=true)→∃pl,fs.mapM (fun f=>(P.info? f.type).map fun i=>(f.offset,i.size))=some pl∧∀i p,Dt E fs i=some p→pl[i]? =some p
 |[],_=>⟨[],rfl,fun i p h=>by unfold Dt at h;rw[eM] at h;simp at h⟩
 |fd::fs,hk=>by
  obtain⟨pl,h1,h2⟩:=Vn fs (fun x hx=>hk x (xo _ hx));have eP:=hk fd xn;unfold QH at eP;split at eP
  ·rename_i r hr;obtain⟨_,i,hi,hs,_⟩:=ok.ti fd.type r hr;refine⟨(fd.offset,i.size)::pl,by simp[List.mapM_cons,hi,h1],fun j p hj=> ?_⟩;cases j with
   |zero=>
    unfold Dt at hj;rw[eM] at hj;simp only [List.getElem?_cons_zero,hr] at hj;cases hj;simp[hs]
   |succ j=>
    unfold Dt at hj;rw[eM] at hj;simp only [List.getElem?_cons_succ] at hj⊢;refine h2 j p ?_;unfold Dt;rw[eM];exact hj
  ·cases eP
include ok in
theorem OW{t:xN}{ps qs:List (Nat×xM)}{v:xM}(h:Ky E t ps=some v)(hq:E' β ps qs)(w:World):∃v',(Instr.build t ⟨qs⟩).run P w= .ok v' w∧ai β v v':=by
 unfold Ky at h;split at h
 ·rename_i fs _ _ z hr;obtain⟨hu,i,hi,_,_,hz⟩:=ok.ti t _ hr;obtain⟨z',gw,dX⟩:=hz rfl;replace h:=au h;rcases h with⟨hk,h⟩|⟨_,h⟩
  ·obtain⟨pl,fV,cM3⟩:=Vn (P:=P) (E:=E) ok fs (nI _ _ hk);split at h
   ·rename_i r Ek;cases h;obtain⟨r',dY,AD⟩:=J1 (β:=β) (place':=(pl.toArray[·]?)) (fun j p hj=>by simpa using cM3 j p hj) ps qs _ z r Ek hq (A5 β z);refine⟨.agg ⟨r'⟩,run_build w t ⟨qs⟩ ⟨r'⟩ ?_,ai.tL AD⟩;unfold Program.built;simp only [hi,hu,gw,fV,dX];exact dY
   ·cases h
  ·cases h
 ·rename_i n e _ _ z hr;obtain⟨hu,i,hi,_,_,hz⟩:=ok.ti t _ hr;obtain⟨z',gw,dX⟩:=hz rfl;split at h
  ·rename_i re dG;obtain⟨_,ie,gL,iI,_⟩:=ok.ti e re dG;split at h
   ·rename_i r Ek;cases h;obtain⟨r',dY,AD⟩:=J1 (β:=β) (place':=fun i=>some (i*ie.size,ie.size)) (fun j p hj=>by rw[iI];exact hj) ps qs _ z r Ek hq (A5 β z);refine⟨.agg ⟨r'⟩,run_build w t ⟨qs⟩ ⟨r'⟩ ?_,ai.tL AD⟩;unfold Program.built;simp only [hi,hu,gw,gL,dX];exact dY
   ·cases h
  ·cases h
 ·cases h
end
def sE{α:Type}(f:Nat→α)(n:Nat):List α→List α:=Nat.rec (motive:=fun _=>List α→List α) (fun cF=>cF) (fun m ih cF=>ih (f m::cF)) n
theorem za{α:Type}(f:Nat→α):∀(n:Nat) (cF:List α),sE f n cF=(List.range n).map f++cF
 |0,cF=>rfl
 |n+1,cF=>by
  show sE f n (f n::cF)=_;rw[za f n,List.range_succ];simp
section
variable{P:Program}{E:aq}(ok:E.Ok P){w0 w:World}{β:af}{A:AW}(inv:Inv w0 E.G β A w)
def yS(E:aq)(A:AW)(t:xN)(len:Nat)(ps:List (Nat×xM)):Option (xM×AW):=
 match E.ti.get none t with
 |some ⟨.slice e,_,_,_,_⟩=>match E.ti.get none e with
  |some re=>bs (Nat.ble (Nat.mul len re.size) 16777216&&re.ri) (match BO (fun i=>some (Nat.mul i re.size,re.size)) ps (sE (fun _=>J) (Nat.mul len re.size) []) with
   |some r=>some (.slice (some ⟨A.next,0,none⟩) len len,A.add ⟨.cells r,re.size,true,false,e⟩)
   |none=>none) none
  |none=>none
 |_=>none
theorem UJ{ve:Nat→Option (Nat×Nat)}:∀(ps:List (Nat×xM)) (cs r:List xM),BO ve ps cs=some r→r.length=cs.length
 |[],cs,r,h=>by cases h;rfl
 |p::ps,cs,r,h=>by
  have h':(match ve p.1,Bi p.2 with
   |some (off,size),some l=>bs (Nat.beq (bI l) size&&Nat.ble (Nat.add off (bI l)) (bI cs)) (BO ve ps (jV l off cs)) none
   |_,_=>none)=some r:=h
  clear h;split at h'
  ·replace h':=au h';rcases h' with⟨_,h'⟩|⟨_,h'⟩
   ·rw[UJ ps _ r h',NR]
   ·cases h'
  ·cases h'
include ok in
theorem UF{t:xN}{len:Nat}{ps qs:List (Nat×xM)}{v:xM}{A':AW}(h:yS E A t len ps=some (v,A'))(hq:E' β ps qs)(w:World):∃cs es e,A'=A.add ⟨.cells cs,es,true,false,e⟩∧vm β w A.next ((Instr.buildSlice t len ⟨qs⟩).run P w) v cs es e:=by
 unfold yS at h;split at h
 ·rename_i e _ _ _ _ hr;split at h
  ·rename_i re dG;replace h:=au h;rcases h with⟨hb,h⟩|⟨_,h⟩
   ·rw[xf] at hb;have aK:len*re.size≤16777216:=xh hb.1;split at h
    ·rename_i r Ek;cases h;have hu:=(ok.ti t _ hr).1;obtain⟨_,ie,gL,iI,_,hz⟩:=ok.ti e re dG;obtain⟨z,gw,dX⟩:=hz hb.2;obtain⟨C,hC⟩:∃C:List xM,((Array.range (len*re.size)).map (fun x=>(if len*re.size=0 then #[] else(⟨re.zero⟩:Array xM))[x% (if len*re.size=0 then #[] else(⟨re.zero⟩:Array xM)).size]!))=⟨C⟩:=⟨_,rfl⟩;have CG:C.length=len*re.size:=by have:=congrArg Array.size hC;simpa using this.symm
     have hlg:(sE (fun _=>J) (Nat.mul len re.size) []).length=len*re.size:=by rw[za];simp
     have hJ:aP β (sE (fun _=>J) (Nat.mul len re.size) []) C:=by
      refine⟨by rw[hlg,CG],fun i a b ha hb=> ?_⟩;rw[za,xj,xx] at ha;cases hq:(List.range (Nat.mul len re.size))[i]? with
      |none=>rw[hq] at ha;cases ha
      |some j=>rw[hq] at ha;cases ha;exact .kL _
     obtain⟨r',dY,AD⟩:=J1 (β:=β) (place':=fun i=>some (i*re.size,re.size)) (fun j p hj=>hj) ps qs _ C r Ek hq hJ;have aC:r'.length=len*re.size:=by rw[←AD.1,UJ ps _ r Ek,hlg]
     refine⟨_,_,_,rfl,r',.slice (some ⟨w.heap.size,0+0,none⟩) len len,?_,AD,fun ah hN=> .slice A.next 0 len len len _ hN (xk _) (xk _) (by simp[aC])⟩;have gX: ¬(2^24:Nat)<len*re.size:=by omega
     by_cases h0:len*re.size=0
     ·rw[if_pos h0] at hC;simp only [h0] at hC;simp[Instr.buildSlice,run_underlying hu,dC ok dG,gX,h0];simp at hC;rw[hC];simp[dY,newRow]
     ·rw[if_neg h0] at hC;simp[Instr.buildSlice,run_underlying hu,dC ok dG,gX,h0,zeroValue,typeInfo,gL,gw,dX];simp at hC;rw[hC];simp[dY,newRow]
    ·cases h
   ·cases h
  ·cases h
 ·cases h
include ok inv in
theorem aG1{t:xN}{len:Nat}{ps qs:List (Nat×xM)}{v:xM}{A':AW}(h:yS E A t len ps=some (v,A'))(hq:E' β ps qs):hO w0 E.G β A ((Instr.buildSlice t len ⟨qs⟩).run P w) v A':=by
 obtain⟨cs,es,e,rfl,hf⟩:=UF ok h hq w;exact vm.Mq inv hf
def KQ(x:xM):Option Nat:=match x with| .int .i64 (.ofNat n)=>some n|_=>none
def yT(E:aq)(A:AW)(t:xN)(l c:xM):Option (xM×AW):=
 match E.ti.get none t,KQ l,KQ c with
 |some ⟨.slice e,_,_,_,_⟩,some l,some c=>match E.ti.get none e with
  |some re=>bs (re.ri&&Nat.beq (bI re.zero) re.size&&Nat.ble l c&&Nat.ble c 9223372036854775807&&Nat.ble (Nat.mul c re.bytes) 140737488355328)
   (some (.slice (some ⟨A.next,0,none⟩) l c,A.add ⟨.cells (sE (fun i=>match dB re.zero (Nat.mod i re.size) with|some v=>pH v|none=>J) (Nat.mul c re.size) []),re.size,true,false,e⟩)) none
  |none=>none
 |_,_,_=>none
theorem VU{x x':xM}{n:Nat}(h:KQ x=some n)(hx:ai β x x'):x'= .int .i64 (n:Int):=by
 unfold KQ at h;split at h
 ·cases h;cases hx;rfl
 ·cases h
include ok in
theorem UG{t:xN}{l c l' c' v:xM}{A':AW}(h:yT E A t l c=some (v,A'))(hl:ai β l l')(hc:ai β c c')(w:World):∃cs es e,A'=A.add ⟨.cells cs,es,true,false,e⟩∧vm β w A.next ((Instr.makeSlice t l' c').run P w) v cs es e:=by
 unfold yT at h;split at h
 ·rename_i e _ _ _ _ ln cn hr T2 CA;split at h
  ·rename_i re dG;replace h:=au h;rcases h with⟨hb,h⟩|⟨_,h⟩
   ·simp only [xf] at hb;obtain⟨⟨⟨⟨ui,rn⟩,cR⟩,cQ1⟩,s8⟩:=hb;have mK:=xb rn;rw[dA] at mK;have au6:=xh cR;have bU0:=xh cQ1;have SN:cn*re.bytes≤140737488355328:=xh s8
    cases h;have hu:=(ok.ti t _ hr).1;obtain⟨_,ie,gL,iI,AN,hz⟩:=ok.ti e re dG;obtain⟨z,gw,dX⟩:=hz ui;have e1:=VU T2 hl;have e2:=VU CA hc;subst e1 e2;obtain⟨C,hC⟩:∃C:List xM,((Array.range (cn*re.size)).map (fun x=>(if cn*re.size=0 then #[] else(⟨re.zero⟩:Array xM))[x% (if cn*re.size=0 then #[] else(⟨re.zero⟩:Array xM)).size]!))=⟨C⟩:=⟨_,rfl⟩;have CG:C.length=cn*re.size:=by have:=congrArg Array.size hC;simpa using this.symm
    have fB:∀ah,aP ah (sE (fun i=>match dB re.zero (Nat.mod i re.size) with|some v=>pH v|none=>J) (Nat.mul cn re.size) []) C:=fun ah=>by
     rw[za,xj];refine⟨by rw[xm,List.length_range];exact CG.symm,fun i a b ha hb=> ?_⟩;have hi:i<cn*re.size:=by rw[←CG];exact(xe.1 hb).1
     have h0: ¬cn*re.size=0:=by omega
     rw[xx,show Nat.mul cn re.size=cn*re.size from rfl,List.getElem?_range hi] at ha;simp only [Option.map_some,Option.some.injEq] at ha;have aT:0<re.size:=by
      rcases xI re.size with e|e
      ·rw[e] at hi;omega
      ·exact e
     have hm:i%re.size<re.zero.length:=by rw[mK];exact Nat.mod_lt _ aT
     have CH:C[i]? =some (re.zero[i%re.size]):=by
      have h2:=congrArg (fun a:Array xM=>a[i]?) hC;simp only [if_neg h0] at h2;rw[Array.getElem?_map,Array.getElem?_range] at h2;rw[if_pos hi] at h2;simp only [Option.map_some,List.size_toArray,mK] at h2;rw[show C[i]? =(⟨C⟩:Array xM)[i]? by simp,←h2];simp[hm]
     rw[CH] at hb;cases hb;rw[←ha];have:dB re.zero (Nat.mod i re.size)=some re.zero[i%re.size]:=by rw[eM];show re.zero[i%re.size]? =_;simp[hm]
     rw[this];exact C6 ah _
    refine⟨_,_,_,rfl,C,.slice (some ⟨w.heap.size,0+0,none⟩) ln cn,?_,fB β,fun ah hN=> .slice A.next 0 ln cn cn _ hN au6 (xk _) (by simp[CG])⟩;have w1:IntKind.i64.wrap (ln:Int)=(ln:Int):=IntWalk.i64_in _ (by omega);have w2:IntKind.i64.wrap (cn:Int)=(cn:Int):=IntWalk.i64_in _ (by omega);have cx: ¬((281474976710656:Int)<(re.bytes:Int)*(cn:Int)):=by
     have h5:((cn*re.bytes:Nat):Int)≤140737488355328:=by omega
     rw[Int.natCast_mul,Int.mul_comm] at h5;omega
    have oM: ¬roomBytes<cn*re.bytes:=by rw[show roomBytes=140737488355328 from rfl];omega
    have yd: ¬((cn:Int)<0):=by omega
    have Hy: ¬((ln:Int)<0):=by omega
    have uk: ¬((cn:Int)<(ln:Int)):=by omega
    by_cases h0:cn*re.size=0
    ·rw[if_pos h0] at hC;simp[Instr.makeSlice,run_underlying hu,asInt,asIntOf,typeInfo,gL,AN,w1,w2,cx,yd,Hy,uk,askRoom,oM,dC ok dG,h0,newRow];simp[h0] at hC;rw[hC]
    ·rw[if_neg h0] at hC;simp[Instr.makeSlice,run_underlying hu,asInt,asIntOf,typeInfo,gL,AN,w1,w2,cx,yd,Hy,uk,askRoom,oM,dC ok dG,h0,newRow,zeroValue,gw,dX];simp at hC;rw[hC]
   ·cases h
  ·cases h
 ·cases h
include ok inv in
theorem aG7{t:xN}{l c l' c' v:xM}{A':AW}(h:yT E A t l c=some (v,A'))(hl:ai β l l')(hc:ai β c c'):hO w0 E.G β A ((Instr.makeSlice t l' c').run P w) v A':=by
 obtain⟨cs,es,e,rfl,hf⟩:=UG ok h hl hc w;exact vm.Mq inv hf
end
section
variable{P:Program}{E:aq}(ok:E.Ok P){w0 w:World}{β:af}{A:AW}(inv:Inv w0 E.G β A w)
theorem F2(w:World)(g:Nat)(cs:Array xM):w.grownBy (w.setRow g cs) (some g):=
 ⟨rfl,rfl,rfl,by simp,fun k _ hk=>setRow_other w g k cs (fun e=>hk (by rw[e]))⟩
theorem y5(av:Array xM)(o:Nat)(vs:List xM)(h:o+vs.length≤av.size)(j:Nat):
 ((av.toList.take o++vs++av.toList.drop (o+vs.length)).toArray)[j]? =if o≤j∧j<o+vs.length then vs[j - o]? else av[j]? :=by
 have aT:(av.toList.take o).length=o:=by simp;omega
 rw[List.getElem?_toArray,List.append_assoc];by_cases h1:j<o
 ·rw[xw (by omega),if_neg (by omega),List.getElem?_take,if_pos h1,Array.getElem?_toList]
 ·rw[xq (by omega),aT];by_cases h2:j<o+vs.length
  ·rw[xw (by omega),if_pos (by omega)]
  ·rw[xq (by omega),if_neg (by omega),List.getElem?_drop,Array.getElem?_toList]
   congr 1
   omega
theorem F3(av:Array xM)(o:Nat)(vs:List xM)(h:o+vs.length≤av.size):((av.toList.take o++vs++av.toList.drop (o+vs.length)).toArray).size=av.size:=by
 simp;omega
include inv in
theorem Ga{B:Nat}{cs:List xM}{es:Nat}{ex:Bool}{ty:xN}(hg:A.get B=some ⟨.cells cs,es,ex,false,ty⟩)(hB:E.G.n≤B){l:Loc}(hl:β B=some l){o:Nat}{vs qu:List xM}(hv:aP β vs qu)(aC:o+vs.length≤cs.length)
 (h1:∀v∈qu,v.oneCell'=true):∃w',(storeCells ⟨l.b,l.d+o,none⟩ qu 0).run P w= .ok () w'∧Inv w0 E.G β (A.put B (some ⟨.cells (jV vs o cs),es,ex,false,ty⟩)) w':=by
 obtain⟨av,e,fz,k1,k2,k3,k4,k5,k6,k7⟩:=inv.cont B _ l hg hl;obtain rfl:=k5 rfl;have ob:=hv.1;have pO:l.d+o+0+qu.length≤av.size:=by omega
 have aQ:=run_storeCells_at (P:=P) l.b (l.d+o) e qu 0 av w k1 pO h1;rw[Nat.add_zero] at aQ;refine⟨_,aQ,inv.write B l _ _ hg hl hB (F2 w l.b _) (by simp) ?_⟩;rw[setRow_heap w l.b av _ e (0,0) k1];refine⟨_,e,(0,0),rfl,by rw[F3 _ _ _ (by omega)];exact k2,by rw[NR];exact k3,fun i v hi=> ?_,fun _=>rfl,fun hx=>by rw[NR];exact k6 hx,k7⟩;rw[aL0 vs o cs i aC] at hi;rw[y5 _ _ _ (by omega)];by_cases vT:o≤i∧i<o+vs.length
 ·rw[if_pos vT] at hi;rw[if_pos (by omega),show l.d+i - (l.d+o)=i - o by omega];exact hv.get hi
 ·rw[if_neg vT] at hi;rw[if_neg (by omega)];exact k4 i v hi
def zc(E:aq)(A:AW)(t:xN)(a x:xM):Option AW:=
 match a with
 | .pointer (some ⟨B,o,none⟩)=>
  match E.ti.get none t,Bi x,A.get B with
  |some r,some l,some ⟨.cells cs,es,ex,false,ty⟩=>
   bs (ey one l&&Nat.beq (bI l) r.size&&Nat.ble E.G.n B&&Nat.ble (Nat.add o (bI l)) (bI cs)) (some (A.put B (some ⟨.cells (jV l o cs),es,ex,false,ty⟩))) none
  |_,_,_=>none
 |_=>none
include ok inv in
theorem aT9{t:xN}{a a' x x':xM}{A':AW}(h:zc E A t a x=some A')(ha:ai β a a')(hx:ai β x x'):∃w',(Instr.storeAt t a' x').run P w= .ok () w'∧Inv w0 E.G β A' w':=by
 unfold zc at h;split at h
 ·rename_i B o;split at h
  ·rename_i r l cs es ex ty hr TJ hg;replace h:=au h;rcases h with⟨hb,h⟩|⟨_,h⟩
   ·simp only [xf,dA] at hb;obtain⟨⟨⟨sL,aT⟩,hG⟩,aK⟩:=hb;have H0:=xb aT;have pg:=xh hG;have yf:o+l.length≤cs.length:=xh aK;cases h;cases ha with
    |ptr _ _ lc cR=>
     obtain⟨l',ee,ii⟩:=NZ TJ hx;obtain⟨w',aJ,bV⟩:=Ga (P:=P) inv hg pg cR ii yf (J9 sL ii);refine⟨w',?_,bV⟩;have h5:l'.length=r.size:=by rw[←ii.1,H0]
     simp[Instr.storeAt,Instr.sureAddr,storeVar,dC ok hr,ee,h5,aJ]
   ·cases h
  ·cases h
 ·cases h
theorem Inv.ac6(h:Inv w0 E.G β A w){w':World}(l:Loc)(aj:ao)(fq:l.b<w.heap.size)(bG:w0.heap.size≤l.b∨β.x l.b)(hz:β.z l.b=none)(gX:∀C lc,β C=some lc→lc.b=l.b→A.get C=none)
 (hw:w.grownBy w' (some l.b)) (aT:w'.heap.size=w.heap.size) (hb:gH (β.put A.next l) l aj w'.heap[l.b]?) (hp:qj aj:=by intro c h;cases h):
 Inv w0 E.G (β.put A.next l) (A.add aj) w'∧β.grow (β.put A.next l) A.next:=by
 have aK:β.le (β.put A.next l):=h.fX (af.wi β A.next l);have hn:A.get A.next=none:=h.dz _ (xk _);have jr:∀B lb,β.put A.next l B=some lb→(B=A.next∧lb=l)∨(B≠A.next∧β B=some lb):=fun B lb e=>by
  rw[af.rR] at e;split at e
  ·cases e;exact .inl ⟨by assumption,rfl⟩
  ·exact .inr ⟨by assumption,e⟩
 have nu:∀B,B≠A.next→(A.add aj).get B=A.get B:=fun B hB=>by
  rcases A.tG aj hn B with⟨_,e⟩|e
  ·exact absurd e hB
  ·exact e
 refine⟨⟨h.below.grown hw bG,fun B lb e=> ?_,fun B hB=> ?_,fun B lb e=> ?_,fun B B' lb uB e e' eo ha iW=> ?_,fun B k lb hk e=> ?_,fun g hg=> ?_,
  fun b cs e=>Oq hw (fun e2=>by have e':β.z b=some cs:=e;rw[e2,hz] at e';cases e') (h.bB b cs e),fun B lb kb hG e ha hs=> ?_,h.eO,fun B k hk=> ?_,fun B v e=>Nat.lt_succ_of_lt (h.jf B v e),h.lay,h.xg,h.jA,h.zo⟩,af.wi β A.next l⟩
 ·show B<A.next+1;rcases jr B lb e with⟨e1,_⟩|⟨_,e⟩
  ·omega
  ·exact Nat.lt_succ_of_lt (h.g9 B lb e)
 ·have te:A.next+1≤B:=hB;rw[nu B (by omega)];exact h.dz B (by omega)
 ·rw[aT];rcases jr B lb e with⟨_,e2⟩|⟨_,e⟩
  ·rw[e2];exact⟨fq,.inr bG⟩
  ·exact h.loc B lb e
 ·rcases jr B lb e with⟨h1,h2⟩|⟨hB,f⟩<;>rcases jr B' uB e' with⟨mU,AU⟩|⟨te,f'⟩
  ·rw[h1,mU]
  ·rw[h2] at eo;rw[nu B' te,gX B' uB f' eo.symm] at iW;cases iW
  ·rw[AU] at eo;rw[nu B hB,gX B lb f eo] at ha;cases ha
  ·rw[nu B hB] at ha;rw[nu B' te] at iW;exact h.inj B B' lb uB f f' eo ha iW
 ·rcases jr B lb e with⟨h1,h2⟩|⟨hB,f⟩
  ·rw[h1] at hk;rw[h2];rcases A.tG aj hn A.next with⟨e2,_⟩|e2
   ·rw[e2] at hk;cases hk;exact hb
   ·rw[e2,hn] at hk;cases hk
  ·rw[nu B hB] at hk;have bA:lb.b≠l.b:=fun e3=>by rw[gX B lb f e3] at hk;cases hk
   rw[hw.block lb.b (h.loc B lb f).1 (fun e3=>bA (xC e3))];exact(h.cont B k lb hk f).mono aK
 ·obtain⟨lg,a,b,c⟩:=h.jg g hg;exact⟨lg,aK.f _ _ a,b,c⟩
 ·rcases jr B lb e with⟨_,h2⟩|⟨hB,f⟩
  ·rw[h2];exact hz
  ·rw[nu B hB] at ha;exact h.sep B lb kb hG f ha hs
 ·rcases A.tG aj hn B with⟨e2,_⟩|e2
  ·rw[e2] at hk;cases hk;exact hp.ok
  ·rw[e2] at hk;exact(h.own B k hk).mono aK
def LD(A:AW)(size:Nat)(x:xM):Option (Nat×List xM):=
 match x with
 | .slice none 0 0=>some (0,[])
 | .slice (some ⟨B,o,none⟩) n _=>bs (Nat.beq n 0) (some (0,[])) (match iw A B with
  |some cs=>match ow (Nat.mul n size) (qd o cs) with|some l=>bs (ey one l) (some (n,l)) none|none=>none
  |none=>none)
 | .string ⟨⟨l⟩⟩=>bs (Nat.beq size 1) (some (bI l,ew (fun b=>Value.int .u8 (.ofNat b.toNat)) l)) none
 |_=>none
def JN(d:TypeDesc)(x:xM):Bool:=
 match d,x with
 | .slice _,.slice _ _ _=>true
 | .string,.string _=>true
 |_,_=>false
include inv in
theorem Xj{size:Nat}{tx:xN}{d:TypeDesc}(hu:P.underlying tx=some d){x x':xM}{n:Nat}{l:List xM}(h:LD A size x=some (n,l))(hk:JN d x=true)(hx:ai β x x'):∃l',aP β l l'∧Src P size tx x' n l' w:=by
 unfold LD at h;split at h
 ·cases h;cases hx;cases d<;>first|(cases hk;done)|exact⟨[],aP.nil β,Src.ofNil w hu 0⟩
 ·rename_i B o n' c;have fp:∃e,d= .slice e:=by cases d<;>first|(cases hk;done)|exact⟨_,rfl⟩
  obtain⟨e,rfl⟩:=fp;replace h:=au h;rcases h with⟨h0,h⟩|⟨h0,h⟩
  ·have uQ:=xb h0;subst uQ;cases h;cases hx with
   |slice _ _ _ _ c' lc cR hn hc he=>exact⟨[],aP.nil β,Src.ofSlice w hu _ 0 c' [] (by simp) (fun j u hu=>by simp at hu) (fun u hu=>by cases hu)⟩
   |empty _ a' c'=>exact⟨[],aP.nil β,Src.ofSlice w hu _ 0 c' [] (by simp) (fun j u hu=>by simp at hu) (fun u hu=>by cases hu)⟩
  ·split at h
   ·rename_i cs cw;split at h
    ·rename_i q hq;replace h:=au h;rcases h with⟨sL,h⟩|⟨_,h⟩
     ·cases h;cases hx with
      |slice _ _ _ _ c' lc cR hn hc he=>
       obtain⟨l',ee,aC,ap⟩:=yW inv cw cR o _ l hq;exact⟨l',ee,Src.ofSlice w hu _ n c' l' (by rw[←ee.1,aC];rfl) (fun j u hu=>by rw[Addr.add_mid];exact ap j u hu) (J9 sL ee)⟩
      |empty _ a' c'=>cases h0
     ·cases h
    ·cases h
   ·cases h
 ·rename_i s;have fp:d= .string:=by cases d<;>first|(cases hk;done)|rfl
  subst fp;replace h:=au h;rcases h with⟨h0,h⟩|⟨_,h⟩
  ·have uQ:=xb h0;subst uQ;cases h;cases hx;refine⟨byteCells ⟨⟨s⟩⟩,?_,?_⟩
   ·have:ew (fun b:UInt8=>Value.int .u8 (.ofNat b.toNat)) s=byteCells ⟨⟨s⟩⟩:=by rw[l8];rfl
    rw[this];refine⟨rfl,fun i v v' a b=> ?_⟩;rw[a] at b;cases b;unfold byteCells at a;rw[xx] at a;obtain⟨q,_,rfl⟩:=xp.1 a;exact .int _ _
   ·have:=Src.ofString (P:=P) w hu ⟨⟨s⟩⟩;rw[dA];exact this
  ·cases h
 ·cases h
end
section
variable{P:Program}{E:aq}(ok:E.Ok P){w0 w:World}{β:af}{A:AW}(inv:Inv w0 E.G β A w)
def Qk(E:aq)(t tx:xN)(x:xM):Option (Row×xN):=
 match E.ti.get none t,E.ti.get none tx with
 |some ⟨.slice e,_,_,_,_⟩,some rx=>match E.ti.get none e with
  |some re=>bs (re.ri&&Nat.beq (bI re.zero) re.size&&Nat.ble 1 re.size&&JN rx.desc x) (some (re,e)) none
  |none=>none
 |_,_=>none
def Lt(ap6 bytes:Nat):Bool:=Nat.ble ap6 9223372036854775807&&Nat.ble (Nat.mul ap6 bytes) 140737488355328
def Dl(E:aq)(A:AW)(t tx:xN)(s x:xM):Option (xM×AW):=
 match Qk E t tx x with
 |none=>none
 |some (re,e)=>match LD A re.size x with
  |none=>none
  |some (n,l)=>
   match s with
   | .slice none 0 0=>bs (Nat.beq n 0) (some (.slice none 0 0,A)) (bs (Lt n re.bytes) (some (.slice (some ⟨A.next,0,none⟩) n n,A.add ⟨.cells l,re.size,false,false,e⟩)) none)
   | .slice (some ⟨B,o,none⟩) sl c=>
    bs (Nat.beq n 0) (some (.slice (some ⟨B,o,none⟩) sl c,A))
    (bs (Nat.beq B ud) none
    (match A.get B with
    |some ⟨.cells cs,es,ex,ro,ty⟩=>
     bs (Nat.beq es re.size&&Nat.ble sl c) (bs (Nat.ble (Nat.add sl n) c)
      (bs (not ro&&Nat.ble E.G.n B&&Nat.ble (Nat.add (Nat.add o (Nat.mul sl re.size)) (bI l)) (bI cs)) (some (.slice (some ⟨B,o,none⟩) (Nat.add sl n) c,A.put B (some ⟨.cells (jV l (Nat.add o (Nat.mul sl re.size)) cs),es,ex,false,ty⟩))) none)
      (match ow (Nat.mul sl re.size) (qd o cs) with
      |some eu=>bs (Lt (Nat.add sl n) re.bytes)
       (bs (ex&&Nat.beq (Nat.add o (Nat.mul c re.size)) (bI cs)) (some (.slice (some ⟨A.next,0,none⟩) (Nat.add sl n) (Nat.add sl n),A.add ⟨.cells (aa eu l),re.size,false,false,e⟩))
        (bs (not ro&&Nat.ble E.G.n B&&Nat.beq ty e) (some (.slice (some ⟨A.next,0,none⟩) (Nat.add sl n) (Nat.add sl n),(A.put B none).add ⟨.cells (aa eu l),re.size,false,false,e⟩)) none)) none
      |none=>none)) none
    |_=>none))
   |_=>none
include inv in
theorem Jx(cs bC rest:List xM)(e:xN)(es:Nat)(av:Array xM)(av1:av.toList=bC++rest)(hc:∀ah,β.le ah→aP ah cs bC):
 Inv w0 E.G (β.put A.next ⟨w.heap.size,0,es,av.size⟩) (A.add ⟨.cells cs,es,false,false,e⟩) (w.drew.alloc (.cells av e))∧β.grow (β.put A.next ⟨w.heap.size,0,es,av.size⟩) A.next:=by
 have aK:β.le (β.put A.next ⟨w.heap.size,0,es,av.size⟩):=inv.fX (af.wi β A.next _);have h:=hc _ aK;have aT:av.size=bC.length+rest.length:=by rw[←Array.length_toList,av1];simp
 refine(inv.drew (w.drawn+1)).new _ _ _ rfl ⟨av,e,(0,0),rfl,rfl,by simp[h.1,aT],fun i v hv=> ?_,fun _=>rfl,(fun h=>by cases h),rfl,fun _=>rfl⟩;obtain⟨v',dF,hr⟩:=h.get hv;refine⟨v',?_,hr⟩;rw[←Array.getElem?_toList,av1,Nat.zero_add,xw (xe.1 dF).1];exact dF
include ok in
theorem aS4{t tx:xN}{x:xM}{re:Row}{e:xN}(h:Qk E t tx x=some (re,e)):∃d ie z,P.underlying t=some (.slice e)∧P.underlying tx=some d∧JN d x=true∧E.ti.get none e=some re∧P.info? e=some ie∧ie.size=re.size∧ie.bytes=re.bytes∧
 ie.zero=some z∧z.cells.size=re.size∧1≤re.size:=by
 unfold Qk at h;split at h
 ·rename_i e0 _ _ _ _ rx hr IC;split at h
  ·rename_i r dG;replace h:=au h;rcases h with⟨hb,h⟩|⟨_,h⟩
   ·cases h;simp only [xf,dA] at hb;obtain⟨⟨⟨hz,hl⟩,h1⟩,hk⟩:=hb;obtain⟨_,ie,gL,hs,s8,dX⟩:=ok.ti e re dG;obtain⟨z,kR,Ft⟩:=dX hz;exact⟨rx.desc,ie,z,(ok.ti t _ hr).1,(ok.ti tx _ IC).1,hk,dG,gL,hs,s8,kR,by rw[Ft];exact xb hl,xh h1⟩
   ·cases h
  ·cases h
 ·cases h
theorem F1{t tx ty e:xN}{i:TypeInfo}(ht:P.underlying t=some (.slice e))(hi:P.info? e=some i){x:xM}{dw:List xM}(hs:Src P i.size tx x 0 dw w)(nY:Option Addr)(sl c:Nat)(aK:sl≤c):
 (Builtin.append_ #[t,tx] ty #[.slice nY sl c,x]).run P w= .ok (.slice nY sl c) w:=by
 have hn:dw=[]:=xA (by simpa using hs.newsLen);subst hn;have hc:=hs.cells;cases nY with
 |none=>rcases hs.kind with⟨e',hk⟩|hk<;>simp[Builtin.append_,run_underlying ht,run_underlying hk,sizeOf,typeInfo,hi,hs.len,aK,hc]
 |some a=>rcases hs.kind with⟨e',hk⟩|hk<;>simp[Builtin.append_,run_underlying ht,run_underlying hk,sizeOf,typeInfo,hi,hs.len,aK,hc,storeCells]
theorem Jb(z:Array xM)(n:Nat):(Builtin.zeroCells z n).size=n*z.size:=by simp[Builtin.zeroCells]
include ok inv in
theorem aS3{t tx ty:xN}{s s' x x' v:xM}{A':AW}(h:Dl E A t tx s x=some (v,A'))(hs:ai β s s')(hx:ai β x x'):hO w0 E.G β A ((Builtin.append_ #[t,tx] ty #[s',x']).run P w) v A':=by
 unfold Dl at h;split at h
 ·cases h
 rename_i re e dG;obtain⟨d,ie,z,hu,IA,hk,hte,gL,iI,s8,hz,Nd,h1⟩:=aS4 ok dG;split at h
 ·cases h
 rename_i n l ra;obtain⟨l',ii,src⟩:=Xj (P:=P) inv IA ra hk hx;rw[←iI] at src;have lW:l'.length=n*re.size:=by rw[src.newsLen,iI]
 split at h
 ·
  cases hs;replace h:=au h;rcases h with⟨h0,h⟩|⟨h0,h⟩
  ·have uQ:=xb h0;subst uQ;cases h;exact⟨β,_,w,F1 hu gL src none 0 0 (xk _),.uZ,inv,af.cq _ _⟩
  ·replace h:=au h;rcases h with⟨hf,h⟩|⟨_,h⟩
   ·unfold Lt at hf;rw[xf] at hf;have f1:=xh hf.1;have f2:n*re.bytes≤140737488355328:=xh hf.2;cases h;have uQ: ¬n=0:=fun e=>by subst e;cases h0
    have aJ:=run_append_grow_src (P:=P) w t tx ty e ie z hu gL hz none 0 0 [] (run_firstCells_none w.drew ie.size 0 0 0) x' n l' src (by omega) (by omega) (growslice_fits (by omega) (by rw[s8,Nat.zero_add];exact f2));have ek:=grownCap_ge w (0+n) 0 e;obtain⟨g1,g2⟩:=Jx inv l l' (Builtin.zeroCells z.cells (grownCap w (0+n) 0 e - (0+n))).toList e re.size (([]++l').toArray++Builtin.zeroCells z.cells (grownCap w (0+n) 0 e - (0+n))) (by simp) (fun ah hb=>ii.mono hb);refine⟨_,_,_,aJ,?_,g1,g2⟩;have hval:=ai.slice (β:=β.put A.next ⟨w.heap.size,0,re.size,(([]++l').toArray++Builtin.zeroCells z.cells (grownCap w (0+n) 0 e - (0+n))).size⟩) A.next 0 n n (grownCap w (0+n) 0 e) _ (jl _ _ _) (xk _) (by omega) (by
     simp only [List.nil_append,Array.size_append,List.size_toArray,Jb,Nd,lW,Nat.zero_add,←Nat.add_mul];apply xD;omega)
    simpa using hval
   ·cases h
 ·rename_i B o sl c;replace h:=au h;rcases h with⟨h0,h⟩|⟨h0,h⟩
  ·have uQ:=xb h0;subst uQ;cases h;cases hs with
   |slice _ _ _ _ c' lc cR hn hc he=>exact⟨β,_,w,F1 hu gL src _ sl c' (by omega),.slice B o sl c c' lc cR hn hc he,inv,af.cq _ _⟩
   |empty _ a' c'=>exact⟨β,_,w,F1 hu gL src _ 0 c' (by omega),.empty o a' c',inv,af.cq _ _⟩
  have uQ: ¬n=0:=fun e=>by subst e;cases h0
  replace h:=au h;rcases h with⟨_,h⟩|⟨ht,h⟩
  ·cases h
  split at h
  ·rename_i cs es ex ro An hg;replace h:=au h;rcases h with⟨hb,h⟩|⟨_,h⟩;rotate_left
   ·cases h
   rw[xf] at hb;have cz:=xb hb.1;subst cz;have di9:=xh hb.2;obtain⟨c',lc,cR,hn,hc,he,rfl⟩:∃c' lc,β B=some lc∧sl≤c∧c≤c'∧lc.d+o+c'*lc.es≤lc.sz∧s'= .slice (some ⟨lc.b,lc.d+o,none⟩) sl c':=by
    cases hs with
    |slice _ _ _ _ c' lc cR hn hc he=>exact⟨c',lc,cR,hn,hc,he,rfl⟩
    |empty=>cases ht
   obtain⟨av,eb,fz,k1,k2,k3,k4,k5,k6,k7⟩:=inv.cont B _ lc hg cR;have Fs:lc.es=re.size:=k7.1;have k8':An≠iY→eb=An:=k7.2;replace h:=au h;rcases h with⟨oM,h⟩|⟨oM,h⟩
   ·
    have XB:sl+n≤c:=xh oM;replace h:=au h;rcases h with⟨cx,h⟩|⟨_,h⟩;rotate_left
    ·cases h
    simp only [xf,Bool.not_eq_true',dA] at cx;obtain⟨⟨ia,hG⟩,pO⟩:=cx;subst ia;have pg:=xh hG;have bT5:o+sl*re.size+l.length≤cs.length:=xh pO;cases h;obtain rfl:=k5 rfl;obtain⟨w',aQ,bV⟩:=Ga (P:=P) inv hg pg cR ii bT5 src.one;have fq:=ii.1;have gh:∀j,j<l'.length→(w.cell? ⟨lc.b,lc.d+o+sl*ie.size+j,none⟩).isSome=true:=fun j hj=>by
     rw[cell_of_row w lc.b _ av eb (0,0) k1];have:lc.d+o+sl*ie.size+j<av.size:=by rw[iI];omega
     simp[this]
    have jz:∀j,j<l'.length→w.frozen? ⟨lc.b,lc.d+o+sl*ie.size+j,none⟩=false:=fun j _=>by simp[World.frozen?,k1]
    have aJ:=run_append_room_src (P:=P) w t tx ty e ie hu gL lc.b (lc.d+o) sl c' x' n l' src (by omega) gh jz;have sJ:=run_storeCells_cells (P:=P) lc.b (lc.d+o+sl*ie.size) l' 0 w (by simpa using gh) (by simpa using jz) src.one;rw[Nat.add_zero] at sJ;rw[←Nat.add_assoc,←iI,sJ] at aQ;cases aQ;exact⟨β,_,_,aJ,.slice B o (sl+n) c c' lc cR XB hc he,bV,af.cq _ _⟩
   ·have XB: ¬sl+n≤c:=fun e=>by rw[show Nat.add sl n=sl+n from rfl,Nat.ble_eq_true_of_le e] at oM;cases oM
    split at h;rotate_left
    ·cases h
    rename_i eu holds;obtain⟨zp,vR,ZQ,au0⟩:=yW inv (show iw A B=some cs by unfold iw;rw[hg]) cR o _ eu holds;have XE:zp.length=sl*re.size:=by rw[←vR.1,ZQ];rfl
    replace h:=au h;rcases h with⟨hf,h⟩|⟨_,h⟩;rotate_left
    ·cases h
    unfold Lt at hf;rw[xf] at hf;have f1:sl+n≤9223372036854775807:=xh hf.1;have f2:(sl+n)*re.bytes≤140737488355328:=xh hf.2;have HB:∀(A1:AW),A1.next=A.next→Inv w0 E.G β A1 w→c'<sl+n→hO w0 E.G β A ((Builtin.append_ #[t,tx] ty #[.slice (some ⟨lc.b,lc.d+o,none⟩) sl c',x']).run P w) (.slice (some ⟨A.next,0,none⟩) (sl+n) (sl+n)) (A1.add ⟨.cells (aa eu l),re.size,false,false,e⟩):=fun A1 AT qZ bg=>by
     have pM:(Builtin.firstCells ie.size sl (.slice (some ⟨lc.b,lc.d+o,none⟩) sl c')).run P w.drew= .ok zp.toArray w.drew:=
      run_firstCells_some w.drew ie.size sl _ sl c' zp (by rw[iI];exact XE) (fun j u hu=>by rw[Addr.add_mid];exact au0 j u hu)
     have aJ:=run_append_grow_src (P:=P) w t tx ty e ie z hu gL hz (some ⟨lc.b,lc.d+o,none⟩) sl c' zp pM x' n l' src bg (by omega) (growslice_fits bg (by rw[s8];exact f2));have ek:=grownCap_ge w (sl+n) c' e;obtain⟨g1,g2⟩:=Jx qZ (aa eu l) (zp++l') (Builtin.zeroCells z.cells (grownCap w (sl+n) c' e - (sl+n))).toList e re.size ((zp++l').toArray++Builtin.zeroCells z.cells (grownCap w (sl+n) c' e - (sl+n))) (by simp) (fun ah hb=>by rw[jm];exact(vR.append ii).mono hb);rw[AT] at g1 g2;refine⟨_,_,_,aJ,?_,g1,g2⟩;have hval:=ai.slice (β:=β.put A.next ⟨w.heap.size,0,re.size,((zp++l').toArray++Builtin.zeroCells z.cells (grownCap w (sl+n) c' e - (sl+n))).size⟩) A.next 0 (sl+n) (sl+n) (grownCap w (sl+n) c' e) _ (jl _ _ _) (xk _) ek (by
      simp only [Array.size_append,List.size_toArray,xa,Jb,Nd,lW,XE,Nat.zero_add,←Nat.add_mul];apply xD;omega)
     simpa using hval
    replace h:=au h;rcases h with⟨FH,h⟩|⟨_,h⟩
    ·
     rw[xf,dA] at FH;have Ad:o+c*re.size=cs.length:=xb FH.2;cases h;refine HB A rfl inv ?_;have h6:=(k6 FH.1).2;rw[Fs] at he;have h8:c'*re.size≤c*re.size:=by omega
     have h9:c'≤c:=Nat.le_of_mul_le_mul_right h8 (by omega);omega
    ·replace h:=au h;rcases h with⟨lY,h⟩|⟨_,h⟩;rotate_left
     ·cases h
     simp only [xf,Bool.not_eq_true'] at lY;obtain⟨⟨ia,hG⟩,AA⟩:=lY;subst ia;have as3:=xb AA;have pg:=xh hG;obtain rfl:=k5 rfl;cases h;have qZ:=inv.kill B;by_cases bg:c'<sl+n
     ·exact HB (A.put B none) rfl qZ bg
     ·
      have fq:=ii.1;have Cb:(sl+n)*re.size≤c'*re.size:=xD _ (by omega);rw[Nat.add_mul] at Cb;rw[Fs] at he;have gh:∀j,j<l'.length→(w.cell? ⟨lc.b,lc.d+o+sl*ie.size+j,none⟩).isSome=true:=fun j hj=>by
       rw[cell_of_row w lc.b _ av eb (0,0) k1];have:lc.d+o+sl*ie.size+j<av.size:=by rw[iI];omega
       simp[this]
      have jz:∀j,j<l'.length→w.frozen? ⟨lc.b,lc.d+o+sl*ie.size+j,none⟩=false:=fun j _=>by simp[World.frozen?,k1]
      have aJ:=run_append_room_src (P:=P) w t tx ty e ie hu gL lc.b (lc.d+o) sl c' x' n l' src (by omega) gh jz;have sJ:=run_storeCells_cells (P:=P) lc.b (lc.d+o+sl*ie.size) l' 0 w (by simpa using gh) (by simpa using jz) src.one;rw[Nat.add_zero] at sJ;have aQ:=run_storeCells_at (P:=P) lc.b (lc.d+o+sl*ie.size) eb l' 0 av w k1 (by rw[iI];omega) src.one;rw[Nat.add_zero,sJ] at aQ;have Su:=(Result.ok.inj aQ).2;rw[Su] at aJ;obtain⟨cO6,cO5⟩:=inv.loc B lc cR;have Ej:lc.d+o+sl*ie.size+l'.length≤av.size:=by rw[iI];omega
      obtain⟨g1,g2⟩:=Inv.ac6 (E:=E) qZ (w':=w.setRow lc.b (av.toList.take (lc.d+o+sl*ie.size)++l'++av.toList.drop (lc.d+o+sl*ie.size+l'.length)).toArray) ⟨lc.b,lc.d+o,re.size,lc.sz⟩ ⟨.cells (aa eu l),re.size,false,false,e⟩ cO6 (cO5.resolve_left (by omega)) (inv.sep B lc _ (by omega) cR hg rfl)
       (fun C lC hC eo=>by
        rcases A.ja B none C with⟨e1,_⟩|⟨e1,_⟩|⟨e1,bA⟩
        ·exact e1
        ·exact e1
        ·rw[e1];cases T5:A.get C with
         |none=>rfl
         |some kk=>exact absurd (inv.inj C B lC lc hC cR eo (by rw[T5];rfl) (by rw[hg];rfl)) bA)
       (F2 w lc.b _) (by simp) (by
        rw[setRow_heap w lc.b av _ eb (0,0) k1];have cO3:β.le (β.put (A.put B none).next ⟨lc.b,lc.d+o,re.size,lc.sz⟩):=qZ.fX (af.wi β _ _);refine⟨_,eb,(0,0),rfl,by rw[F3 _ _ _ Ej];exact k2,?_,fun i v hv=> ?_,fun _=>rfl,(fun h=>by cases h),rfl,fun bA=>(k8' (by rw[as3];exact bA)).trans as3⟩
        ·show lc.d+o+(aa eu l).length≤lc.sz;rw[jm,xa,ZQ,fq,lW];show lc.d+o+(sl*re.size+n*re.size)≤lc.sz;omega
        ·have cM:(eu++l)[i]? =some v:=by rw[←jm];exact hv
         obtain⟨v',dF,fB⟩:=(vR.append ii).get cM;refine⟨v',?_,fB.mono cO3⟩;show(List.toArray _)[lc.d+o+i]? =some v';rw[y5 _ _ _ Ej];by_cases hi:i<sl*re.size
         ·rw[if_neg (by rw[iI];omega)];rw[xw (by omega)] at dF;have:=au0 i v' dF;rw[cell_of_row w lc.b _ av eb (0,0) k1] at this;exact this
         ·rw[xq (by omega)] at dF;have SB:=(xe.1 dF).1;rw[if_pos (by rw[iI];omega),show lc.d+o+i - (lc.d+o+sl*ie.size)=i - zp.length by rw[iI];omega];exact dF)
      have iK:(A.put B none).next=A.next:=rfl;rw[iK] at g1 g2;refine⟨_,_,_,aJ,?_,g1,g2⟩;have hval:=ai.slice (β:=β.put A.next ⟨lc.b,lc.d+o,re.size,lc.sz⟩) A.next 0 (sl+n) (sl+n) c' _ (jl _ _ _) (xk _) (by omega) (by simpa using he);simpa using hval
  ·cases h
 ·cases h
end
theorem XR(a b:List UInt8):((⟨⟨a⟩⟩:ByteArray)==⟨⟨b⟩⟩)=decide (a=b):=by
 show(BEq.beq (⟨a⟩:Array UInt8) ⟨b⟩)=_;by_cases e:a=b
 ·subst e;simp
 ·rw[decide_eq_false e];simp[e]
theorem Vu:∀(ks:List xO) (a b:List xM),gW ks a b=some true→a=b
 |[],a,b,h=>by
  have h':pJ a b=some true:=h;clear h;unfold pJ at h';split at h'
  ·rfl
  ·cases h'
 |k::ks,a,b,h=>by
  have h':nS k (gW ks) a b=some true:=h;clear h;unfold nS at h';split at h'
  ·rename_i j m a j' n b;replace h':=au h';rcases h' with⟨hk,h'⟩|⟨_,h'⟩
   ·rw[xf] at hk;split at h'
    ·rename_i r hr;have h2:=xC h';replace h2:=au h2;rcases h2 with⟨hi,h2⟩|⟨_,h2⟩
     ·subst h2;rw[pu] at hi;rw[qH hk.1,qH hk.2,of_decide_eq_true hi,Vu ks a b hr]
     ·cases h2
    ·cases h'
   ·cases h'
  ·cases h'
theorem Vw:∀(ks:List xO) (a b:List xM),gW ks a b=some true→∀n,(a.zip b).all (fun p=>Instr.sameBits (n+1) p.1 p.2)=true
 |[],a,b,h,n=>by
  have h':pJ a b=some true:=h;clear h;unfold pJ at h';split at h'
  ·rfl
  ·cases h'
 |k::ks,a,b,h,n=>by
  have h':nS k (gW ks) a b=some true:=h;clear h;unfold nS at h';split at h'
  ·rename_i j m a1 j' n' b1;replace h':=au h';rcases h' with⟨hk,h'⟩|⟨_,h'⟩
   ·rw[xf] at hk;split at h'
    ·rename_i r hr;have h2:=xC h';replace h2:=au h2;rcases h2 with⟨hi,h2⟩|⟨_,h2⟩
     ·subst h2;rw[pu] at hi;have ih:=Vw ks a1 b1 hr n;rw[List.zip_cons_cons,List.all_cons,xf];refine⟨?_,ih⟩;rw[qH hk.1,qH hk.2,of_decide_eq_true hi];simp[Instr.sameBits]
     ·cases h2
    ·cases h'
   ·cases h'
  ·cases h'
def jZ(E:aq)(sq:List (Nat×List xO))(kt:xN)(k k2:xM):Option Bool:=
 match k,k2 with
 | .int j a,.int j' b=>match E.ti.get none kt with|some ⟨.int _,_,_,_,_⟩=>bs (dE j j') (some (mQ a b)) none|_=>none
 | .string ⟨⟨a⟩⟩,.string ⟨⟨b⟩⟩=>match E.ti.get none kt with|some ⟨.string,_,_,_,_⟩=>some (vE a b)|_=>none
 | .agg ⟨a⟩,.agg ⟨b⟩=>match rP sq kt with|some ks=>gW ks a b|none=>none
 |_,_=>none
def pE(E:aq)(sq:List (Nat×List xO))(kt:xN)(k:xM)(es:List MapEntry):Nat→Option (Option (Nat×xM)):=
 List.rec (motive:=fun _=>Nat→Option (Option (Nat×xM))) (fun _=>some none) (fun e _ ih i=>match jZ E sq kt k e.key with
  |none=>none
  |some true=>some (some (i,e.val))
  |some false=>ih (Nat.add i 1)) es
def Bl(E:aq)(sq:List (Nat×List xO))(kt:xN)(k:xM):Bool:=
 match jZ E sq kt k k with
 |some true=>true
 |_=>false
def eU(β:af)(es ax:List MapEntry):Prop:=es.length=ax.length∧∀(i:Nat) e e',es[i]? =some e→ax[i]? =some e'→yo β e e'
theorem eU.l5{β:af}{e:MapEntry}{es r:List MapEntry}(h:eU β (e::es) r):∃e' ax,r=e'::ax∧yo β e e'∧eU β es ax:=by
 cases r with
 |nil=>exact absurd h.1 (by simp)
 |cons e' l'=>exact⟨e',l',rfl,h.2 0 e e' rfl rfl,by have:=h.1;simpa using this,fun i a b ha hb=>h.2 (i+1) a b (by simpa using ha) (by simpa using hb)⟩
theorem eU.oo{β:af}{r:List MapEntry}(h:eU β [] r):r=[]:=by
 cases r with
 |nil=>rfl
 |cons _ _=>exact absurd h.1 (by simp)
def S7(β:af)(ax:List MapEntry)(r r':Option (Nat×xM)):Prop:=
 (r=none∧r'=none)∨∃j v v',r=some (j,v)∧r'=some (j,v')∧ai β v v'
section
variable{P:Program}{E:aq}(ok:E.Ok P){sq:List (Nat×List xO)}(ba:E.Seq P sq){w0 w:World}{β:af}{A:AW}
theorem N8{kt:xN}{d:TypeDesc}{k k':xM}(hs:∀k2 fC b,jZ E sq kt k k2=some b→ai β k2 fC→Instr.sameNow d k' fC=some b):∀(es ax:List MapEntry) (i:Nat) (r:Option (Nat×xM)),pE E sq kt k es i=some r→eU β es ax→
 ∃r',Instr.findNow d k' ax i=some r'∧S7 β ax r r'
 |[],ax,i,r,h,hm=>by
  rw[hm.oo];cases h;exact⟨none,rfl,.inl ⟨rfl,rfl⟩⟩
 |e::es,ax,i,r,h,hm=>by
  obtain⟨e',Af,rfl,⟨hb,hk,hv⟩,AG⟩:=hm.l5;have h':(match jZ E sq kt k e.key with
   |none=>none
   |some true=>some (some (i,e.val))
   |some false=>pE E sq kt k es (i+1))=some r:=h
  clear h;split at h'
  ·cases h'
  ·rename_i hq;cases h';exact⟨some (i,e'.val),by simp[Instr.findNow,hs _ _ _ hq hk],.inr ⟨i,e.val,e'.val,rfl,rfl,hv⟩⟩
  ·rename_i hq;obtain⟨r',h1,h2⟩:=N8 hs es Af (i+1) r h' AG;exact⟨r',by simp[Instr.findNow,hs _ _ _ hq hk,h1],h2⟩
theorem UC{kt:xN}{k k':xM}(hs:∀k2 fC b,jZ E sq kt k k2=some b→ai β k2 fC→(Op.equal kt k' fC).run P w= .ok b w):∀(es ax:List MapEntry) (i:Nat) (r:Option (Nat×xM)),pE E sq kt k es i=some r→eU β es ax→
 ∃r',(Instr.findAsking kt k' ax i).run P w= .ok r' w∧S7 β ax r r'
 |[],ax,i,r,h,hm=>by
  rw[hm.oo];cases h;exact⟨none,by simp[Instr.findAsking],.inl ⟨rfl,rfl⟩⟩
 |e::es,ax,i,r,h,hm=>by
  obtain⟨e',Af,rfl,⟨hb,hk,hv⟩,AG⟩:=hm.l5;have h':(match jZ E sq kt k e.key with
   |none=>none
   |some true=>some (some (i,e.val))
   |some false=>pE E sq kt k es (i+1))=some r:=h
  clear h;split at h'
  ·cases h'
  ·rename_i hq;cases h';exact⟨some (i,e'.val),by simp[Instr.findAsking,hs _ _ _ hq hk],.inr ⟨i,e.val,e'.val,rfl,rfl,hv⟩⟩
  ·rename_i hq;obtain⟨r',h1,h2⟩:=UC hs es Af (i+1) r h' AG;exact⟨r',by simp[Instr.findAsking,hs _ _ _ hq hk,h1],h2⟩
include ok ba in
theorem JZ{kt:xN}{k k':xM}(hk:Bl E sq kt k=true)(Np:ai β k k'){es ax:List MapEntry}{r:Option (Nat×xM)}(h:pE E sq kt k es 0=some r)(hm:eU β es ax)(w:World):
 (∃r',(Instr.findKey kt k' ax).run P w= .ok r' w∧S7 β ax r r')∧(∀em,(Instr.checkKey em 10000 kt k').run P w= .ok () w)∧k'=k∧Instr.sameBits 10000 k k=true∧(∀k2 fC,jZ E sq kt k k2=some true→ai β k2 fC→fC=k):=by
 unfold Bl at hk;split at hk
 ·rename_i jy;cases k with
  |int j a=>
   have nX:=jy;simp only [jZ] at nX;split at nX
   ·rename_i kd _ _ _ _ hr;cases Np;have hu:=(ok.ti kt _ hr).1;have hs:∀k2 fC b,jZ E sq kt (.int j a) k2=some b→ai β k2 fC→Instr.sameNow (.int kd) (.int j a) fC=some b∧(b=true→fC= .int j a):=fun k2 fC b hq hv=>by
     cases k2<;>simp only [jZ] at hq<;>try(cases hq;done)
     rename_i j2 a2;rw[hr] at hq;simp only at hq;replace hq:=au hq;rcases hq with⟨hj,hq⟩|⟨_,hq⟩
     ·have sZ:=qH hj;subst sZ;cases hq;cases hv;rw[pu];refine⟨by simp[Instr.sameNow];rfl,fun hb=> ?_⟩;rw[of_decide_eq_true hb]
     ·cases hq
    obtain⟨r',h1,h2⟩:=N8 (fun k2 fC b hq hv=>(hs k2 fC b hq hv).1) es ax 0 r h hm;refine⟨⟨r',by simp[Instr.findKey,run_underlying hu,h1],h2⟩,fun em=> ?_,rfl,by simp[Instr.sameBits],fun k2 fC hq hv=>(hs k2 fC true hq hv).2 rfl⟩;rw[show(10000:Nat)=9999+1 from rfl,Instr.checkKey];simp[run_underlying hu]
   ·cases nX
  |string b=>
   obtain⟨⟨a⟩⟩:=b;have nX:=jy;simp only [jZ] at nX;split at nX
   ·rename_i _ _ _ _ hr;cases Np;have hu:=(ok.ti kt _ hr).1;have hs:∀k2 fC b,jZ E sq kt (.string ⟨⟨a⟩⟩) k2=some b→ai β k2 fC→Instr.sameNow .string (.string ⟨⟨a⟩⟩) fC=some b∧(b=true→fC= .string ⟨⟨a⟩⟩):=fun k2 fC b hq hv=>by
     cases k2<;>simp only [jZ] at hq<;>try(cases hq;done)
     rename_i s2;obtain⟨⟨a2⟩⟩:=s2;rw[hr] at hq;simp only at hq;cases hq;cases hv;rw[zb];refine⟨?_,fun hb=>by rw[of_decide_eq_true hb]⟩;simp only [Instr.sameNow]
     congr 1
     exact XR a a2
    obtain⟨r',h1,h2⟩:=N8 (fun k2 fC b hq hv=>(hs k2 fC b hq hv).1) es ax 0 r h hm;refine⟨⟨r',by simp[Instr.findKey,run_underlying hu,h1],h2⟩,fun em=> ?_,rfl,by simp only [Instr.sameBits];rw[XR];exact decide_eq_true rfl,fun k2 fC hq hv=>(hs k2 fC true hq hv).2 rfl⟩;rw[show(10000:Nat)=9999+1 from rfl,Instr.checkKey];simp[run_underlying hu]
   ·cases nX
  |agg b=>
   obtain⟨a⟩:=b;have nX:=jy;simp only [jZ] at nX;split at nX
   ·rename_i ks gZ;have bW:k'= .agg ⟨a⟩:=by
     cases Np with
     |agg _ p' hp h1=>obtain⟨rfl,_⟩:=Jp ks a a p' p' true nX ⟨hp,h1⟩ ⟨hp,h1⟩;rfl
    subst bW;have hs:∀k2 fC b,jZ E sq kt (.agg ⟨a⟩) k2=some b→ai β k2 fC→(Op.equal kt (.agg ⟨a⟩) fC).run P w= .ok b w∧(b=true→fC= .agg ⟨a⟩):=fun k2 fC b hq hv=>by
     cases k2<;>simp only [jZ] at hq<;>try(cases hq;done)
     rename_i s2;obtain⟨a2⟩:=s2;rw[gZ] at hq;simp only at hq;cases hv with
     |agg _ p' hp h1=>
      cases Np with
      |agg _ q' Fy h2=>
       obtain⟨_,rfl⟩:=Jp ks a a2 a p' b hq ⟨Fy,h2⟩ ⟨hp,h1⟩;refine⟨ba.eq kt ks a _ b gZ hq w,fun hb=> ?_⟩;subst hb;rw[Vu ks a _ hq]
    obtain⟨r',h1,h2⟩:=UC (P:=P) (w:=w) (fun k2 fC b hq hv=>(hs k2 fC b hq hv).1) es ax 0 r h hm;refine⟨⟨r',?_,h2⟩,fun em=>ba.key kt ks a gZ nX em w,rfl,?_,fun k2 fC hq hv=>(hs k2 fC true hq hv).2 rfl⟩
    ·obtain⟨d,hd⟩:=ba.und kt ks gZ;cases ax with
     |nil=>
      have:r'=none:=by simp[Instr.findAsking] at h1;exact h1.symm
      subst this;simp[Instr.findKey,run_underlying hd,Instr.findNow]
     |cons e' Af=>
      have hsn:Instr.sameNow d (.agg ⟨a⟩) e'.key=none:=by
       cases d<;>rfl
      simp[Instr.findKey,run_underlying hd,Instr.findNow,hsn,h1]
    ·have:=Vw ks a a nX 9998;rw[show(10000:Nat)=9999+1 from rfl,Instr.sameBits];simpa using this
   ·cases nX
  |_=>simp only [jZ] at jy;cases jy
 ·cases hk
end
end
end Go.Ex
