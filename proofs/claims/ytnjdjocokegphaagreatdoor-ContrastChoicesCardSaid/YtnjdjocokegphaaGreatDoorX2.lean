/- A verified evaluator of Go functions. -/
import Derived.Test.YtnjdjocokegphaaGreatDoorX1
import Derived.IntWalk
set_option linter.unusedVariables false
set_option linter.unusedSimpArgs false
set_option maxHeartbeats 4000000
set_option maxRecDepth 100000
namespace Go.Ex
open Go.RowKit
noncomputable section
def s8(x:Option xM)(ML Nl:Nat):Option Nat:=
 match x with
 |none=>some ML
 |some (.int _ (.ofNat m))=>bs (Nat.ble m Nl) (some m) none
 |some _=>none
def l6(β:ah):Option xM→Option xM→Prop
 |none,none=>True
 |some v,some v'=>ai β v v'
 |_,_=>False
section
variable{P:Program}{β:ah}
theorem run_sliceBound(k:xO)(m y:Nat)(h:m≤y)(code:BoundsCode)(w:World):(Instr.sliceBound (.int k (m:Int)) y code).run P w= .ok m w:=by
 have h0:(0:Int)≤(m:Int)∧(m:Int)≤(y:Int):=⟨by omega,by omega⟩;simp[Instr.sliceBound,asIntOf,h]
theorem uR{x x':Option xM}{ML Nl m:Nat}(h:s8 x ML Nl=some m)(hx:l6 β x x'):(x'=none∧m=ML)∨∃k,x'=some (.int k (m:Int))∧m≤Nl:=by
 unfold s8 at h;split at h
 ·cases h;cases x' with
  |none=>exact .inl ⟨rfl,rfl⟩
  |some v=>exact hx.elim
 ·rename_i k q;replace h:=aB h;rcases h with⟨hb,h⟩|⟨_,h⟩
  ·cases h;cases x' with
   |none=>exact hx.elim
   |some v=>cases hx;exact .inr ⟨k,rfl,xh hb⟩
  ·cases h
 ·cases h
def tC(len cap:Nat)(lo hi mx:Option xM):Option (Nat×Nat×Nat):=
 match s8 mx cap cap with
 |none=>none
 |some m=>match s8 hi len m with
  |none=>none
  |some h=>match s8 lo 0 h with
   |none=>none
   |some l=>some (l,h,m)
theorem rE{len cap cap':Nat}{lo hi mx lo' hi' mx':Option xM}{l h m:Nat}(hb:tC len cap lo hi mx=some (l,h,m))(gI:l6 β lo lo')(fS:l6 β hi hi')(kK:l6 β mx mx')
 (cF:len≤cap) (pL:cap≤cap') (sO:mx.isSome=true→hi.isSome=true) (s:Bool) (w:World):
 (∃m',(Instr.sliceBounds s len cap' lo' hi' mx').run P w= .ok (l,h,m') w∧m≤m'∧m'≤cap'∧(cap=cap'→m=m'))∧l≤h∧h≤m∧m≤cap:=by
 unfold tC at hb;split at hb
 ·cases hb
 rename_i m0 hm;split at hb
 ·cases hb
 rename_i h0 hh;split at hb
 ·cases hb
 rename_i l0 hl;cases hb;have Hj:m≤cap:=by rcases uR hm kK with⟨_,rfl⟩|⟨k,_,h⟩<;>omega
 have Hl:h≤m:=by
  rcases uR hh fS with⟨e,rfl⟩|⟨k,_,h⟩
  ·rcases uR hm kK with⟨_,rfl⟩|⟨k,e2,h⟩
   ·exact cF
   ·subst e2;cases mx with
    |none=>exact kK.elim
    |some _=>
     have:=sO rfl;subst e;cases hi with
     |none=>cases this
     |some _=>exact fS.elim
  ·exact h
 have Mw:l≤h:=by rcases uR hl gI with⟨_,rfl⟩|⟨k,_,h⟩<;>omega
 refine⟨?_,Mw,Hl,Hj⟩;rcases uR hm kK with⟨rfl,e1⟩|⟨km,rfl,_⟩
 ·refine⟨cap',?_,by omega,xk _,fun e=>by omega⟩;rcases uR hh fS with⟨rfl,e2⟩|⟨kh,rfl,_⟩<;>rcases uR hl gI with⟨rfl,e4⟩|⟨kl,rfl,_⟩
  ·simp[Instr.sliceBounds,e2,e4]
  ·rw[←e2];simp[Instr.sliceBounds,run_sliceBound _ l h Mw]
  ·simp[Instr.sliceBounds,run_sliceBound _ h cap' (xH (xH Hl Hj) pL),e4]
  ·simp[Instr.sliceBounds,run_sliceBound _ h cap' (xH (xH Hl Hj) pL),run_sliceBound _ l h Mw]
 ·refine⟨m,?_,xk _,by omega,fun _=>rfl⟩;rcases uR hh fS with⟨rfl,rfl⟩|⟨kh,rfl,_⟩
  ·cases mx with
   |none=>exact kK.elim
   |some _=>
    have:=sO rfl;cases hi with
    |none=>cases this
    |some _=>exact fS.elim
  ·rcases uR hl gI with⟨rfl,e4⟩|⟨kl,rfl,_⟩
   ·simp[Instr.sliceBounds,run_sliceBound _ m cap' (xH Hj pL),run_sliceBound _ h m Hl,e4]
   ·simp[Instr.sliceBounds,run_sliceBound _ m cap' (xH Hj pL),run_sliceBound _ h m Hl,run_sliceBound _ l h Mw]
end
def I8(A:AW)(B:Nat):Option (List xM×Nat):=
 match A.get B with
 |some ⟨.cells cs,es,_,_,_⟩=>some (cs,es)
 |_=>none
def Pd(E:av)(A:AW)(t:xN)(x:xM)(lo hi mx:Option xM):Option xM:=
 match E.ti.get none t,x with
 |some ⟨.string,_,_,_,_⟩,.string ⟨⟨s⟩⟩=>
  match mx with
  |some _=>none
  |none=>match tC (bE s) (bE s) lo hi none with
   |some (l,h,_)=>match mY (Nat.sub h l) (oO l s) with|some r=>some (.string ⟨⟨r⟩⟩)|none=>none
   |none=>none
 |some ⟨.slice jO,_,_,_,_⟩,.slice none 0 0=>
  match tC 0 0 lo hi mx,E.ti.get none jO with
  |some (0,0,0),some _=>some (.slice none 0 0)
  |_,_=>none
 |some ⟨.slice jO,_,_,_,_⟩,.slice (some ⟨B,o,none⟩) n c=>
  match tC n c lo hi mx,E.ti.get none jO with
  |some (l,h,m),some r=>
   bs (Nat.ble n c) (bs (Nat.beq l 0) (some (.slice (some ⟨B,o,none⟩) h m))
    (bs (Nat.beq l m) (some (.slice (some ⟨rZ,0,none⟩) 0 0))
     (match I8 A B with
     |some (_,es)=>bs (Nat.beq es r.size) (some (.slice (some ⟨B,Nat.add o (Nat.mul l r.size),none⟩) (Nat.sub h l) (Nat.sub m l))) none
     |none=>none))) none
  |_,_=>none
 |some ⟨.slice jO,_,_,_,_⟩,.iface B (.tuple ⟨[]⟩)=>
  match lo,hi,mx with
  |none,some (.int _ (.ofNat 0)),none=>match A.get B,E.ti.get none jO with
   |some ⟨.own (.chan (some (c+1))),_,_,_,_⟩,some _=>some (.iface B (.chan (some (c+1))))
   |_,_=>none
  |_,_,_=>none
 |some ⟨.array n jO,_,_,_,_⟩,.pointer (some ⟨B,o,none⟩)=>
  match tC n n lo hi mx,E.ti.get none jO,I8 A B with
  |some (l,h,m),some r,some (cs,es)=>
   bs (Nat.beq es r.size&&Nat.ble (Nat.add o (Nat.mul n r.size)) (bE cs)) (some (.slice (some ⟨B,bs (Nat.beq l m) o (Nat.add o (Nat.mul l r.size)),none⟩) (Nat.sub h l) (Nat.sub m l))) none
  |_,_,_=>none
 |_,_=>none
def JB(E:av)(A:AW)(t:xN)(x:xM)(lo hi mx:Option xM):Option xM:=
 bs (mx.isSome&& !hi.isSome) none (Pd E A t x lo hi mx)
section
variable{P:Program}{E:av}(ok:E.Ok P){w0 w:World}{β:ah}{A:AW}(inv:Inv w0 E.G β A w)
include inv ok
omit ok in
theorem V8{B:Nat}{cs:List xM}{es:Nat}(h:I8 A B=some (cs,es)){l:Loc}(hl:β B=some l):l.es=es∧l.d+cs.length≤l.sz:=by
 unfold I8 at h;split at h
 ·rename_i hg;cases h;obtain⟨aE,e,fz,_,_,h3,_,_,_,h7⟩:=inv.cont B _ l hg hl;exact⟨h7.1,h3⟩
 ·cases h
omit inv ok in
theorem VC(s:List UInt8)(l h:Nat):(⟨⟨s⟩⟩:ByteArray).extract l h=⟨⟨(s.drop l).take (h - l)⟩⟩:=by
 apply ByteArray.ext;rw[ByteArray.data_extract];apply Array.ext';simp[Array.toList_extract]
theorem bb5{t:xN}{x x' v:xM}{lo hi mx lo' hi' mx':Option xM}(h:Pd E A t x lo hi mx=some v)(hx:ai β x x')(gI:l6 β lo lo')(fS:l6 β hi hi')(kK:l6 β mx mx')(sO:mx.isSome=true→hi.isSome=true):
 ∃v',(Instr.sliceAt t x' lo' hi' mx').run P w= .ok v' w∧ai β v v':=by
 unfold Pd at h;split at h
 ·rename_i _ _ _ _ s hr;have hu:=(ok.ti t _ hr).1;split at h
  ·cases h
  ·split at h
   ·rename_i l hh m hb;split at h
    ·rename_i r bK;cases h;cases hx;have Tt:mx'=none:=by cases mx' with|none=>rfl|some _=>exact kK.elim
     subst Tt;rw[dg] at hb;obtain⟨⟨m',aM,_⟩,Bm,zn,zj⟩:=rE (P:=P) (cap':=s.length) hb gI fS (show l6 β none none from trivial) (xk _) (xk _) (fun e=>by cases e) false w;rw[B0] at bK;obtain⟨rfl,_⟩:=BY _ _ _ bK;refine⟨_,?_,.string _⟩;have aU:(⟨⟨s⟩⟩:ByteArray).size=s.length:=rfl;simp[Instr.sliceAt,run_underlying hu,Instr.slice,aU,aM,VC]
    ·cases h
   ·cases h
 ·rename_i jO _ _ _ _ hr;have hu:=(ok.ti t _ hr).1;split at h
  ·rename_i r hb bK;cases h;cases hx;obtain⟨⟨m',aM,pT,eK,_⟩,_⟩:=rE (P:=P) (cap':=0) hb gI fS kK (xk _) (xk _) sO true w;have:m'=0:=by omega
   subst this;exact⟨.slice none 0 0,by simp[Instr.sliceAt,run_underlying hu,Instr.slice,aM,dD ok bK],.tz⟩
  ·cases h
 ·rename_i jO _ _ _ _ B o n c hr;have hu:=(ok.ti t _ hr).1;split at h
  ·rename_i l hh m r hb bK;replace h:=aB h;rcases h with⟨NB,h⟩|⟨_,h⟩
   ·have dF5:=xh NB;replace h:=aB h;rcases h with⟨rm,h⟩|⟨rm,h⟩
    ·have aI1:=xb rm;subst aI1;cases h;cases hx with
     |slice _ _ _ _ c' lc cF hn hc he=>
      obtain⟨⟨m',aM,pT,eK,_⟩,_,zn,zj⟩:=rE (P:=P) hb gI fS kK hn hc sO true w;refine⟨.slice (some ⟨lc.b,lc.d+o,none⟩) hh m',?_,.slice B o hh m m' lc cF zn pT (xH (Nat.add_le_add_left (xD _ eK) _) he)⟩;simp[Instr.sliceAt,run_underlying hu,Instr.slice,aM,dD ok bK,Addr.add]
     |empty _ a' c'=>
      obtain⟨⟨m',aM,pT,eK,_⟩,_,zn,zj⟩:=rE (P:=P) (cap':=c') hb gI fS kK (xk _) (xL _) sO true w;obtain rfl:hh=0:=by omega
      obtain rfl:m=0:=by omega
      refine⟨.slice (some a') 0 m',?_,.empty o a' m'⟩;simp[Instr.sliceAt,run_underlying hu,Instr.slice,aM,dD ok bK,Addr.add]
    ·have aI1: ¬l=0:=fun e=>by subst e;cases rm
     replace h:=aB h;rcases h with⟨zl,h⟩|⟨zl,h⟩
     ·have aH7:=xb zl;subst aH7;cases h;cases hx with
      |slice _ _ _ _ c' lc cF hn hc he=>
       obtain⟨⟨m',aM,pT,eK,_⟩,Bm,zn,zj⟩:=rE (P:=P) hb gI fS kK hn hc sO true w;have:hh=l:=by omega
       subst this;by_cases mR:m'=hh
       ·exact⟨.slice (some ⟨lc.b,lc.d+o,none⟩) 0 0,by simp[Instr.sliceAt,run_underlying hu,Instr.slice,aM,dD ok bK,mR],.empty 0 _ _⟩
       ·exact⟨.slice (some ((⟨lc.b,lc.d+o,none⟩:Addr).add (hh*r.size))) 0 (m' - hh),by simp[Instr.sliceAt,run_underlying hu,Instr.slice,aM,dD ok bK,mR],.empty 0 _ _⟩
      |empty _ a' c'=>
       obtain⟨⟨m',aM,pT,eK,_⟩,Bm,zn,zj⟩:=rE (P:=P) (cap':=c') hb gI fS kK (xk _) (xL _) sO true w;omega
     ·have aH7: ¬l=m:=fun e=>by subst e;rw[l4] at zl;simp at zl
      split at h
      ·rename_i es hw;replace h:=aB h;rcases h with⟨cb,h⟩|⟨_,h⟩
       ·have qO:=xb cb;subst qO;cases h;cases hx with
        |slice _ _ _ _ c' lc cF hn hc he=>
         obtain⟨⟨m',aM,pT,eK,_⟩,Bm,zn,zj⟩:=rE (P:=P) hb gI fS kK hn hc sO true w;obtain⟨Tx,_⟩:=V8 inv hw cF;have mR: ¬m'=l:=by omega
         refine⟨.slice (some ⟨lc.b,lc.d+(o+l*r.size),none⟩) (hh - l) (m' - l),?_,.slice B (o+l*r.size) (hh - l) (m - l) (m' - l) lc cF (by omega) (by omega) ?_⟩
         ·simp[Instr.sliceAt,run_underlying hu,Instr.slice,aM,dD ok bK,mR,Addr.add_lit,Nat.add_assoc]
         ·rw[Tx] at he⊢;have:l*r.size+(m' - l)*r.size=m'*r.size:=by rw[←Nat.add_mul];congr 1;omega
          have h2:m'*r.size≤c'*r.size:=xD _ eK;omega
        |empty _ a' c'=>
         obtain⟨⟨m',aM,pT,eK,_⟩,Bm,zn,zj⟩:=rE (P:=P) (cap':=c') hb gI fS kK (xk _) (xL _) sO true w;omega
       ·cases h
      ·cases h
   ·cases h
  ·cases h
 ·rename_i jO _ _ _ _ B hr;have hu:=(ok.ti t _ hr).1;split at h
  ·rename_i kh;split at h
   ·rename_i c es ex ro ty r hg bK;cases h;cases hx with
    |raw _ n cap l hl hn ho=>
     have dh0:lo'=none:=by cases lo' with|none=>rfl|some _=>exact gI.elim
     have Tt:mx'=none:=by cases mx' with|none=>rfl|some _=>exact kK.elim
     subst dh0;subst Tt;obtain⟨x0,rfl,sK⟩:∃x0,hi'=some x0∧ai β (.int kh (.ofNat 0)) x0:=by cases hi' with|none=>exact fS.elim|some x0=>exact⟨x0,rfl,fS⟩
     cases sK;have aM:(Instr.sliceBounds true n cap none (some (.int kh (.ofNat 0))) none).run P w= .ok (0,0,cap) w:=by
      have hB:tC n cap none (some (.int kh (.ofNat 0))) none=some (0,0,cap):=by
       unfold tC s8;have:Nat.ble 0 cap=true:=Nat.ble_eq_true_of_le (xL _);simp only [this,ek]
      obtain⟨⟨m',h1,_,_,h4⟩,_⟩:=rE (P:=P) (β:=β) (cap':=cap) hB (lo':=none) (hi':=some (.int kh (.ofNat 0))) (mx':=none) trivial (ai.int _ _) trivial hn (xk _) (fun e=>by cases e) true w;have e4:m'=cap:=(h4 rfl).symm;rw[e4] at h1;exact h1
     obtain⟨rows,hd,gz⟩:=inv.own B _ hg;have nQ:β.d c=some (.sl rows):=by
      obtain⟨y,hy,h1⟩:=xr.1 (show(β.d c).bind (fun x=>if x.cell then some x else none)=_ from hd);split at h1<;>cases h1
      exact hy
     have vv:rows=[]:=by
      rcases gz with⟨e,_⟩|⟨l2,ub,_,e,_⟩
      ·exact e
      ·rw[ho] at e;injection e with e;injection e with _ e _;exact xE.1 e.symm
     subst vv;refine⟨.slice (some ⟨l.b,l.d,none⟩) 0 cap,?_,.own B c [] (some ⟨l.b,l.d,none⟩) cap ho (.inr ⟨l,hl,rfl⟩) nQ⟩;simp only [Int.ofNat_eq_natCast,Int.natCast_zero] at aM⊢;simp[Instr.sliceAt,run_underlying hu,Instr.slice,aM,dD ok bK,Addr.add]
   ·cases h
  ·cases h
 ·rename_i n jO _ _ _ _ B o hr;have hu:=(ok.ti t _ hr).1;split at h
  ·rename_i l hh m r cs es hb bK hw;replace h:=aB h;rcases h with⟨hc,h⟩|⟨_,h⟩
   ·rw[xf] at hc;have qO:=xb hc.1;subst qO;have aR:=xh hc.2;rw[dg] at aR;have vS:o+n*r.size≤cs.length:=aR;cases h;cases hx with
    |ptr _ _ lc cF=>
     obtain⟨⟨m',aM,pT,eK,hme⟩,Bm,zn,zj⟩:=rE (P:=P) (cap':=n) hb gI fS kK (xk _) (xk _) sO false w;have:=hme rfl;subst this;obtain⟨Tx,aU⟩:=V8 inv hw cF;have h2:m*r.size≤n*r.size:=xD _ zj;by_cases zl:l=m
     ·subst zl;have cg:Nat.beq l l=true:=by rw[l4];simp
      rw[cg,ek];refine⟨.slice (some ⟨lc.b,lc.d+o,none⟩) (hh - l) (l - l),?_,.slice B o (hh - l) (l - l) (l - l) lc cF (by omega) (xk _) ?_⟩
      ·simp[Instr.sliceAt,run_underlying hu,Instr.sureAddr,aM,dD ok bK]
      ·rw[Nat.sub_self,Nat.zero_mul];omega
     ·have cg:Nat.beq l m=false:=by rw[l4];simpa using zl
      rw[cg,gC];refine⟨.slice (some ⟨lc.b,lc.d+(o+l*r.size),none⟩) (hh - l) (m - l),?_,.slice B (o+l*r.size) (hh - l) (m - l) (m - l) lc cF (by omega) (xk _) ?_⟩
      ·simp[Instr.sliceAt,run_underlying hu,Instr.sureAddr,aM,dD ok bK,Addr.add_lit,Nat.add_assoc,Ne.symm zl]
      ·rw[Tx];have:l*r.size+(m - l)*r.size=m*r.size:=by rw[←Nat.add_mul];congr 1;omega
       omega
   ·cases h
  ·cases h
 ·cases h
theorem bh5{t:xN}{x x' v:xM}{lo hi mx lo' hi' mx':Option xM}(h:JB E A t x lo hi mx=some v)(hx:ai β x x')(gI:l6 β lo lo')(fS:l6 β hi hi')(kK:l6 β mx mx'):
 ∃v',(Instr.sliceAt t x' lo' hi' mx').run P w= .ok v' w∧ai β v v':=by
 unfold JB at h;replace h:=aB h;rcases h with⟨_,h2⟩|⟨kq,h2⟩
 ·cases h2
 refine bb5 ok inv h2 hx gI fS kK (fun e=> ?_);rw[e] at kq;cases hq:hi.isSome with
 |true=>rfl
 |false=>rw[hq] at kq;cases kq
end
def uc(a:List UInt8):List UInt8→Bool:=
 List.rec (motive:=fun _=>List UInt8→Bool) (fun b=>List.rec (motive:=fun _=>Bool) true (fun _ _ _=>false) b)
  (fun x _ ih b=>List.rec (motive:=fun _=>Bool) false (fun y t _=>bs (Nat.beq x.toNat y.toNat) (ih t) false) b) a
theorem ya(a:List UInt8):∀b,uc a b=decide (a=b):=by
 induction a with
 |nil=>intro b;cases b<;>rfl
 |cons x a ih=>
  intro b;cases b with
  |nil=>rfl
  |cons y b=>
   show bs (Nat.beq x.toNat y.toNat) (uc a b) false=_;rw[l4];by_cases h:x=y
   ·subst h;rw[decide_eq_true rfl,ek,ih];simp
   ·have: ¬x.toNat=y.toNat:=fun e=>h (UInt8.toNat_inj.1 e)
    rw[decide_eq_false this,gC];simp[h]
def qe(l:List (Nat×List xO))(t:Nat):Option (List xO):=
 List.rec (motive:=fun _=>Option (List xO)) none (fun p _ ih=>bs (Nat.beq p.1 t) (some p.2) ih) l
def n7(a b:List xM):Option Bool:=match a,b with|[],[]=>some true|_,_=>none
def mB(k:xO)(ih:List xM→List xM→Option Bool)(a b:List xM):Option Bool:=
 match a,b with
 | .int j m::a,.int j' n::b=>bs (dq j k&&dq j' k) (match ih a b with|some r=>some (bs (kI m n) r false)|none=>none) none
 |_,_=>none
def gF(ks:List xO):List xM→List xM→Option Bool:=
 List.rec (motive:=fun _=>List xM→List xM→Option Bool) n7 (fun k _ ih=>mB k ih) ks
structure av.Seq (E:av) (P:Program) (sq:List (Nat×List xO)):Prop where
 eq:∀t ks a b r,qe sq t=some ks→gF ks a b=some r→∀w,(Op.equal t (.agg ⟨a⟩) (.agg ⟨b⟩)).run P w= .ok r w
 guard:∀t ks,qe sq t=some ks→P.eqGuardType P.depth t=false
 und:∀t ks,qe sq t=some ks→∃d,P.underlying t=some d
 key:∀t ks a,qe sq t=some ks→gF ks a a=some true→∀em w,(Instr.checkKey em 10000 t (.agg ⟨a⟩)).run P w= .ok () w
theorem IL{β:ah}:∀(ks:List xO) (a b a' b':List xM) (r:Bool),gF ks a b=some r→aT β a a'→aT β b b'→a'=a∧b'=b
 |[],a,b,a',b',r,h,ha,hb=>by
  have h':n7 a b=some r:=h;clear h;unfold n7 at h';split at h'
  ·exact⟨ha.mV,hb.mV⟩
  ·cases h'
 |k::ks,a,b,a',b',r,h,ha,hb=>by
  have h':mB k (gF ks) a b=some r:=h;clear h;unfold mB at h';split at h'
  ·rename_i j m a j' n b;replace h':=aB h';rcases h' with⟨_,h'⟩|⟨_,h'⟩
   ·split at h'
    ·rename_i r2 bK;obtain⟨v,l,rfl,hv,hl⟩:=ha.kS;obtain⟨v2,l2,rfl,cx,bF⟩:=hb.kS;obtain⟨e1,e2⟩:=IL ks a b l l2 r2 bK hl bF;cases hv;cases cx;rw[e1,e2];exact⟨rfl,rfl⟩
    ·cases h'
   ·cases h'
  ·cases h'
def rA(E:av)(sq:List (Nat×List xO))(t:xN)(x y:xM):Option Bool:=
 match x,y with
 | .bool a,.bool b=>match E.ti.get none t with|some ⟨.bool,_,_,_,_⟩=>some (bs a b (not b))|_=>none
 | .pointer none,.pointer none=>match E.ti.get none t with|some ⟨.pointer _,_,_,_,_⟩=>some true|_=>none
 | .pointer none,.pointer (some _)=>match E.ti.get none t with|some ⟨.pointer _,_,_,_,_⟩=>some false|_=>none
 | .pointer (some _),.pointer none=>match E.ti.get none t with|some ⟨.pointer _,_,_,_,_⟩=>some false|_=>none
 | .pointer (some ⟨B,o,none⟩),.pointer (some ⟨B',o',none⟩)=>
  match E.ti.get none t with
  |some ⟨.pointer e,_,_,_,_⟩=>match E.ti.get none e with
   |some r=>bs (Nat.beq r.size 0) none (bs (Nat.beq B B') (some (Nat.beq o o')) none)
   |none=>none
  |_=>none
 | .slice none _ _,.slice none _ _=>match E.ti.get none t with|some ⟨.slice _,_,_,_,_⟩=>some true|_=>none
 | .slice none _ _,.slice (some _) _ _=>match E.ti.get none t with|some ⟨.slice _,_,_,_,_⟩=>some false|_=>none
 | .slice (some _) _ _,.slice none _ _=>match E.ti.get none t with|some ⟨.slice _,_,_,_,_⟩=>some false|_=>none
 | .map none,.map none=>match E.ti.get none t with|some ⟨.map _ _,_,_,_,_⟩=>some true|_=>none
 | .map none,.map (some _)=>match E.ti.get none t with|some ⟨.map _ _,_,_,_,_⟩=>some false|_=>none
 | .map (some _),.map none=>match E.ti.get none t with|some ⟨.map _ _,_,_,_,_⟩=>some false|_=>none
 | .nilFunc,.nilFunc=>match E.ti.get none t with|some ⟨.func _ _ _,_,_,_,_⟩=>some true|_=>none
 | .nilFunc,.func _ _ _=>match E.ti.get none t with|some ⟨.func _ _ _,_,_,_,_⟩=>some false|_=>none
 | .func _ _ _,.nilFunc=>match E.ti.get none t with|some ⟨.func _ _ _,_,_,_,_⟩=>some false|_=>none
 | .agg ⟨a⟩,.agg ⟨b⟩=>match qe sq t with|some ks=>gF ks a b|none=>none
 |_,_=>none
theorem oF(t:xN)(x y:xM):Op.equal t x y=Op.equalIn (9999+1) t x y:=rfl
section
variable{P:Program}{E:av}(ok:E.Ok P){sq:List (Nat×List xO)}(aY:E.Seq P sq){β:ah}
include ok aY
theorem an9{t:xN}{x y x' y':xM}{r:Bool}(h:rA E sq t x y=some r)(hx:ai β x x')(hy:ai β y y')(w:World):
 (Op.equal t x' y').run P w= .ok r w∧(∀op p q,(eqGuard op t p q x' y').run P w= .ok () w)∧(∀op,op= .eql∨op= .neq→binOp op t x' y'=match op with| .eql=>(do pure (.bool (←Op.equal t x' y')))|_=>(do pure (.bool (!(←Op.equal t x' y'))))):=by
 unfold rA at h;split at h
 ·rename_i a b;split at h<;>cases h
  rename_i hr;cases hx;cases hy;have hu:=(ok.ti t _ hr).1;refine⟨?_,fun op p q=> ?_,fun op ho=>by rcases ho with rfl|rfl<;>rfl⟩
  ·rw[oF,Op.equalIn];cases a<;>cases b<;>simp[run_underlying hu,bs]
  ·cases op<;>simp[eqGuard]
 ·split at h<;>cases h
  rename_i hr;have hu:=(ok.ti t _ hr).1;cases hx<;>cases hy<;>
  (refine⟨?_,fun op p q=> ?_,fun op ho=>by rcases ho with rfl|rfl<;>rfl⟩
   ·rw[oF,Op.equalIn];simp[run_underlying hu]
   ·cases op<;>simp[eqGuard])
 ·split at h<;>cases h
  rename_i hr;have hu:=(ok.ti t _ hr).1;cases hx<;>cases hy<;>
  (refine⟨?_,fun op p q=> ?_,fun op ho=>by rcases ho with rfl|rfl<;>rfl⟩
   ·rw[oF,Op.equalIn];simp[run_underlying hu]
   ·cases op<;>simp[eqGuard])
 ·split at h<;>cases h
  rename_i hr;have hu:=(ok.ti t _ hr).1;cases hx<;>cases hy<;>
  (refine⟨?_,fun op p q=> ?_,fun op ho=>by rcases ho with rfl|rfl<;>rfl⟩
   ·rw[oF,Op.equalIn];simp[run_underlying hu]
   ·cases op<;>simp[eqGuard])
 ·rename_i B o B' o';split at h
  ·rename_i e _ _ _ _ hr;split at h
   ·rename_i re dV;replace h:=aB h;rcases h with⟨_,h⟩|⟨hz,h⟩
    ·cases h
    replace h:=aB h;rcases h with⟨hB,h⟩|⟨hz,h⟩
    ·have ry:=xb hB;subst ry;cases h;rw[l4] at hz;have Bf: ¬re.size=0:=by simpa using hz
     cases hx with
     |ptr _ _ l hl=>
      cases hy with
      |ptr _ _ l' dW=>
       rw[hl] at dW;cases dW;have hu:=(ok.ti t _ hr).1;refine⟨?_,fun op p q=> ?_,fun op ho=>by rcases ho with rfl|rfl<;>rfl⟩
       ·rw[oF,Op.equalIn];simp[run_underlying hu,dD ok dV,Bf,sameAddr,l4,Bool.beq_eq_decide_eq]
       ·cases op<;>simp[eqGuard]
    ·cases h
   ·cases h
  ·cases h
 ·split at h<;>cases h
  rename_i hr;have hu:=(ok.ti t _ hr).1;cases hx<;>cases hy<;>
  (refine⟨?_,fun op p q=> ?_,fun op ho=>by rcases ho with rfl|rfl<;>rfl⟩
   ·rw[oF,Op.equalIn];simp[run_underlying hu]
   ·cases op<;>simp[eqGuard])
 ·split at h<;>cases h
  rename_i hr;have hu:=(ok.ti t _ hr).1;cases hx<;>cases hy<;>
  (refine⟨?_,fun op p q=> ?_,fun op ho=>by rcases ho with rfl|rfl<;>rfl⟩
   ·rw[oF,Op.equalIn];simp[run_underlying hu]
   ·cases op<;>simp[eqGuard])
 ·split at h<;>cases h
  rename_i hr;have hu:=(ok.ti t _ hr).1;cases hx<;>cases hy<;>
  (refine⟨?_,fun op p q=> ?_,fun op ho=>by rcases ho with rfl|rfl<;>rfl⟩
   ·rw[oF,Op.equalIn];simp[run_underlying hu]
   ·cases op<;>simp[eqGuard])
 ·split at h<;>cases h
  rename_i hr;have hu:=(ok.ti t _ hr).1;cases hx<;>cases hy<;>
  (refine⟨?_,fun op p q=> ?_,fun op ho=>by rcases ho with rfl|rfl<;>rfl⟩
   ·rw[oF,Op.equalIn];simp[run_underlying hu]
   ·cases op<;>simp[eqGuard])
 ·split at h<;>cases h
  rename_i hr;have hu:=(ok.ti t _ hr).1;cases hx<;>cases hy<;>
  (refine⟨?_,fun op p q=> ?_,fun op ho=>by rcases ho with rfl|rfl<;>rfl⟩
   ·rw[oF,Op.equalIn];simp[run_underlying hu]
   ·cases op<;>simp[eqGuard])
 ·split at h<;>cases h
  rename_i hr;have hu:=(ok.ti t _ hr).1;cases hx<;>cases hy<;>
  (refine⟨?_,fun op p q=> ?_,fun op ho=>by rcases ho with rfl|rfl<;>rfl⟩
   ·rw[oF,Op.equalIn];simp[run_underlying hu]
   ·cases op<;>simp[eqGuard])
 ·split at h<;>cases h
  rename_i hr;have hu:=(ok.ti t _ hr).1;cases hx<;>cases hy<;>
  (refine⟨?_,fun op p q=> ?_,fun op ho=>by rcases ho with rfl|rfl<;>rfl⟩
   ·rw[oF,Op.equalIn];simp[run_underlying hu]
   ·cases op<;>simp[eqGuard])
 ·split at h<;>cases h
  rename_i hr;have hu:=(ok.ti t _ hr).1;cases hx<;>cases hy<;>
  (refine⟨?_,fun op p q=> ?_,fun op ho=>by rcases ho with rfl|rfl<;>rfl⟩
   ·rw[oF,Op.equalIn];simp[run_underlying hu]
   ·cases op<;>simp[eqGuard])
 ·split at h<;>cases h
  rename_i hr;have hu:=(ok.ti t _ hr).1;cases hx<;>cases hy<;>
  (refine⟨?_,fun op p q=> ?_,fun op ho=>by rcases ho with rfl|rfl<;>rfl⟩
   ·rw[oF,Op.equalIn];simp[run_underlying hu]
   ·cases op<;>simp[eqGuard])
 ·rename_i a b;split at h
  ·rename_i ks gJ;cases hx with
   |agg _ p' hp h1=>
    cases hy with
    |agg _ q' hq h2=>
     obtain⟨rfl,rfl⟩:=IL ks a b p' q' r h ⟨hp,h1⟩ ⟨hq,h2⟩;refine⟨aY.eq t ks _ _ r gJ h w,fun op p q=> ?_,fun op ho=>by rcases ho with rfl|rfl<;>rfl⟩;have hg:=aY.guard t ks gJ;cases op<;>simp[eqGuard,program,Sem.run,hg]
  ·cases h
 ·cases h
end
def ft(E:av)(sq:List (Nat×List xO))(op:BinOp)(t:xN)(x y:xM):Option xM:=
 match x,y with
 | .int k a,.int k' b=>AT op k a k' b
 | .string ⟨⟨a⟩⟩,.string ⟨⟨b⟩⟩=>match op with
  | .eql=>some (.bool (uc a b))
  | .neq=>some (.bool (not (uc a b)))
  | .add=>bs (Nat.ble (Nat.add (bE a) (bE b)) 9223372036854775807) (some (.string ⟨⟨aj a b⟩⟩)) none
  |_=>none
 |x,y=>match op with
  | .eql=>(rA E sq t x y).map .bool
  | .neq=>(rA E sq t x y).map fun b=> .bool (not b)
  |_=>none
def ai4(op:BinOp):xO→Int→xO→Int→Option xM:=
 match op with
 | .add=>fun k a k' b=>bs (dq k k') (some (.int k (gW k (Int.add a b)))) none
 | .sub=>fun k a k' b=>bs (dq k k') (some (.int k (gW k (Int.sub a b)))) none
 | .mul=>fun k a k' b=>bs (dq k k') (some (.int k (gW k (Int.mul a b)))) none
 | .and=>fun k a k' b=>bs (dq k k') ((mE .and k a b).map (.int k)) none
 | .or=>fun k a k' b=>bs (dq k k') ((mE .or k a b).map (.int k)) none
 | .xor=>fun k a k' b=>bs (dq k k') ((mE .xor k a b).map (.int k)) none
 | .eql=>fun k a k' b=>bs (dq k k') (some (.bool (kI a b))) none
 | .neq=>fun k a k' b=>bs (dq k k') (some (.bool (not (kI a b)))) none
 | .lss=>fun k a k' b=>bs (dq k k') (some (.bool (hY a b))) none
 | .leq=>fun k a k' b=>bs (dq k k') (some (.bool (not (hY b a)))) none
 | .gtr=>fun k a k' b=>bs (dq k k') (some (.bool (hY b a))) none
 | .geq=>fun k a k' b=>bs (dq k k') (some (.bool (not (hY a b)))) none
 |op=>AT op
theorem bk5(op:BinOp)(k:xO)(a:Int)(k':xO)(b:Int):ai4 op k a k' b=AT op k a k' b:=by cases op<;>rfl
abbrev aS2:=xO→Int→av→List (Nat×List xO)→BinOp→xN→Option xM
def cP6(y:xM):aS2:=
 CI (ρ:=aS2) (fun _ v k a E sq op t=>ft E sq op t (.int k a) v) (fun k' b _ k a _ _ op _=>ai4 op k a k' b) (fun _ v k a E sq op t=>ft E sq op t (.int k a) v) (fun _ v k a E sq op t=>ft E sq op t (.int k a) v)
  (fun _ _ _ v k a E sq op t=>ft E sq op t (.int k a) v) (fun _ v k a E sq op t=>ft E sq op t (.int k a) v) (fun v k a E sq op t=>ft E sq op t (.int k a) v) y y
abbrev cQ0:=av→List (Nat×List xO)→BinOp→xN→xM→Option xM
def TT(E:av)(sq:List (Nat×List xO))(op:BinOp)(t:xN)(x y:xM):Option xM:=
 CI (ρ:=cQ0) (fun _ v E sq op t y=>ft E sq op t v y) (fun k a _ E sq op t y=>cP6 y k a E sq op t) (fun _ v E sq op t y=>ft E sq op t v y) (fun _ v E sq op t y=>ft E sq op t v y)
  (fun _ _ _ v E sq op t y=>ft E sq op t v y) (fun _ v E sq op t y=>ft E sq op t v y) (fun v E sq op t y=>ft E sq op t v y) x x E sq op t y
theorem bv6(E:av)(sq:List (Nat×List xO))(op:BinOp)(t:xN)(x y:xM):TT E sq op t x y=ft E sq op t x y:=by
 cases x with
 |int k a=>cases y with
  |int k' b=>exact bk5 op k a k' b
  |_=>rfl
 |_=>rfl
theorem bf3(a b:List UInt8):(⟨⟨a⟩⟩:ByteArray)++(⟨⟨b⟩⟩:ByteArray)=⟨⟨a++b⟩⟩:=by
 apply ByteArray.ext;rw[ByteArray.data_append];apply Array.ext';simp
section
variable{P:Program}{E:av}(ok:E.Ok P){sq:List (Nat×List xO)}(aY:E.Seq P sq){β:ah}
include ok aY
theorem qc{op:BinOp}{t:xN}{x y x' y' v:xM}(h:ft E sq op t x y=some v)(hx:ai β x x')(hy:ai β y y')(p q:Operand)(w:World):
 ∃v',(do eqGuard op t p q x' y';binOp op t x' y':Sem xM).run P w= .ok v' w∧ai β v v':=by
 unfold ft at h;split at h
 ·rename_i k a k' b;cases hx;cases hy;obtain⟨h1,h2⟩:=bt7 h t P w;refine⟨v,?_,h2 β⟩;have hg:(eqGuard op t p q (.int k a) (.int k' b)).run P w= .ok () w:=by cases op<;>simp[eqGuard]
  simp[hg,h1]
 ·rename_i a b;cases hx;cases hy;have hg:(eqGuard op t p q (.string ⟨⟨a⟩⟩) (.string ⟨⟨b⟩⟩)).run P w= .ok () w:=by cases op<;>simp[eqGuard]
  split at h
  ·cases h;refine⟨_,?_,.bool _⟩;rw[ya];simp[hg,binOp,Op.stringOp,ByteArray.toList_eq,Bool.beq_eq_decide_eq]
  ·cases h;refine⟨_,?_,.bool _⟩;rw[ya];simp[hg,binOp,Op.stringOp,ByteArray.toList_eq,Bool.beq_eq_decide_eq]
  ·replace h:=aB h;rcases h with⟨hb,h⟩|⟨_,h⟩
   ·cases h;have aR:=xh hb;rw[dg,dg] at aR;have vS:a.length+b.length≤9223372036854775807:=aR;refine⟨_,?_,.string _⟩;rw[iN];have aU:(⟨⟨a⟩⟩:ByteArray).size=a.length:=rfl;have Tk:(⟨⟨b⟩⟩:ByteArray).size=b.length:=rfl;have hm:IntKind.i64.max=9223372036854775807:=rfl;have gG: ¬(9223372036854775807:Int)<(a.length:Int)+(b.length:Int):=by omega
    simp[hg,binOp,Op.stringOp,aU,Tk,hm,gG,bf3]
   ·cases h
  ·cases h
 ·rename_i h1 h2;split at h
  ·obtain⟨r,hr,rfl⟩:=xp.1 h;obtain⟨e1,e2,e3⟩:=an9 ok aY hr hx hy w;refine⟨.bool r,?_,.bool _⟩;have e4:=e3 .eql (.inl rfl);simp only at e4;simp[e2,e4,e1]
  ·obtain⟨r,hr,rfl⟩:=xp.1 h;obtain⟨e1,e2,e3⟩:=an9 ok aY hr hx hy w;refine⟨.bool (!r),?_,.bool _⟩;have e4:=e3 .neq (.inr rfl);simp only at e4;simp[e2,e4,e1]
  ·cases h
end
def AA(E:av)(s d:xN)(x:xM):Option xM:=
 match E.ti.get none s,E.ti.get none d,x with
 |some _,some ⟨.int k,_,_,_,_⟩,.int _ n=>some (.int k (gW k n))
 |some _,some ⟨.string,_,_,_,_⟩,.string b=>some (.string b)
 |_,_,_=>none
def SB(E:av)(A:AW)(t:xN)(x:xM):Option xM:=
 match E.ti.get none t,x with
 |some ⟨.string,_,_,_,_⟩,.string ⟨⟨l⟩⟩=>some (.int .i64 (.ofNat (bE l)))
 |some ⟨.slice _,_,_,_,_⟩,.slice _ n _=>some (.int .i64 (.ofNat n))
 |some ⟨.array n _,_,_,_,_⟩,_=>some (.int .i64 (.ofNat n))
 |some ⟨.map _ _,_,_,_,_⟩,.map none=>some (.int .i64 0)
 |some ⟨.map _ _,_,_,_,_⟩,.map (some B)=>match A.get B with
  |some ⟨.map es _,_,_,_,_⟩=>some (.int .i64 (.ofNat (bE es)))
  |_=>none
 |_,_=>none
section
variable{P:Program}{E:av}(ok:E.Ok P){w0 w:World}{β:ah}{A:AW}(inv:Inv w0 E.G β A w)
include ok
theorem PQ{s d:xN}{x x' v:xM}(h:AA E s d x=some v)(hx:ai β x x')(w:World):∃v',(convert s d x').run P w= .ok v' w∧ai β v v':=by
 unfold AA at h;split at h
 ·rename_i hs hd;cases h;cases hx;have h1:=(ok.ti s _ hs).1;have h2:=(ok.ti d _ hd).1;refine⟨_,?_,.int _ _⟩;rw[kQ];simp[convert,run_underlying h1,run_underlying h2,Conv.intToInt]
 ·rename_i r _ _ _ _ _ hs hd;cases h;cases hx;have h1:=(ok.ti s _ hs).1;have h2:=(ok.ti d _ hd).1;refine⟨_,?_,.string _⟩;cases hr:r.desc<;>rw[hr] at h1<;>simp[convert,run_underlying h1,run_underlying h2]
 ·cases h
include inv
theorem Qb{t ty:xN}{x x' v:xM}(h:SB E A t x=some v)(hx:ai β x x'):∃v',(Builtin.len_ #[t] ty #[x']).run P w= .ok v' w∧ai β v v':=by
 unfold SB at h;split at h
 ·rename_i hr;cases h;cases hx;have hu:=(ok.ti t _ hr).1;refine⟨_,?_,.int _ _⟩;rw[dg];simp[Builtin.len_,run_underlying hu,goInt];rfl
 ·rename_i hr;cases h;have hu:=(ok.ti t _ hr).1;cases hx<;>exact⟨_,by simp[Builtin.len_,run_underlying hu,goInt],.int _ _⟩
 ·rename_i hr;cases h;have hu:=(ok.ti t _ hr).1;exact⟨_,by simp[Builtin.len_,run_underlying hu,goInt],.int _ _⟩
 ·rename_i hr;cases h;cases hx;have hu:=(ok.ti t _ hr).1;exact⟨_,by simp[Builtin.len_,run_underlying hu,goInt],.int _ _⟩
 ·rename_i B hr;have hu:=(ok.ti t _ hr).1;split at h
  ·rename_i es ck _ _ _ _ hg;cases h;cases hx with
   |map _ l hl=>
    obtain⟨aD,h1,h2,_⟩:=inv.cont B _ l hg hl;refine⟨_,?_,.int _ _⟩;rw[dg,h2];simp[Builtin.len_,run_underlying hu,goInt,getObj,Sem.run,h1]
  ·cases h
 ·cases h
end
def jA(l:List xM):Nat→List xM→List xM:=
 List.rec (motive:=fun _=>Nat→List xM→List xM) (fun _ cs=>cs) (fun v _ ih o cs=>ih (Nat.add o 1) (Ds cs o v)) l
theorem aY3(o:Nat)(cs:List xM):jA [] o cs=cs:=rfl
theorem EI(v:xM)(l:List xM)(o:Nat)(cs:List xM):jA (v::l) o cs=jA l (o+1) (cs.set o v):=by
 show jA l (o+1) (Ds cs o v)=_;rw[Ji]
theorem N7(l:List xM):∀(o:Nat) (cs:List xM),(jA l o cs).length=cs.length:=by
 induction l with
 |nil=>intros;rfl
 |cons v l ih=>intro o cs;rw[EI,ih];simp
theorem aY4(l:List xM):∀(o:Nat) (cs:List xM) (i:Nat),o+l.length≤cs.length→
 (jA l o cs)[i]? =if o≤i∧i<o+l.length then l[i - o]? else cs[i]? :=by
 induction l with
 |nil=>intro o cs i _;rw[aY3,if_neg (fun e=>by simp at e;omega)]
 |cons v l ih=>
  intro o cs i h;rw[xi] at h;rw[EI,ih (o+1) _ i (by simp;omega),xi];by_cases h1:o+1≤i∧i<o+1+l.length
  ·rw[if_pos h1,if_pos (by omega)];rw[show i - o=(i - (o+1))+1 by omega];simp
  ·rw[if_neg h1];by_cases h2:o=i
   ·subst h2;rw[if_pos (by omega),List.getElem?_set_self (by omega)];simp
   ·rw[if_neg (by omega),List.getElem?_set_ne h2]
theorem aY2{β:ah}{l l':List xM}(h:aT β l l'):∀(o:Nat) {cs bu:List xM},aT β cs bu→aT β (jA l o cs) (jA l' o bu):=by
 induction l generalizing l' with
 |nil=>intro o cs bu hc;rw[h.mV];exact hc
 |cons v l ih=>
  intro o cs bu hc;obtain⟨v',r,rfl,hv,hr⟩:=h.kS;rw[EI,EI];exact ih hr (o+1) (hc.set o hv)
def zQ(v:xM):Option (List xM):=
 match v with
 | .agg ⟨l⟩=>some l
 | .chan (some (_+1))=>some [v]
 | .chan _=>none
 | .tuple _=>none
 |v=>some [v]
def one(v:xM):Bool:=
 match v with
 | .agg _=>false
 | .chan (some (_+1))=>true
 | .chan _=>false
 | .tuple _=>false
 |_=>true
theorem EY{z:Nat→Option (Array xM)}{d:D}{v:xM}(h:Rd z d v)(hc:d.cell=true):v.cells=⟨[v]⟩∧v.oneCell'=true:=by
 cases h<;>first|exact⟨rfl,rfl⟩|cases hc
theorem Og{β:ah}{x x':xM}{l:List xM}(h:zQ x=some l)(hx:ai β x x'):∃l',x'.cells=⟨l'⟩∧aT β l l':=by
 unfold zQ at h;split at h
 ·cases h;cases hx with
  |agg _ p' hp h1=>exact⟨p',rfl,hp,h1⟩
 ·cases h;refine⟨[x'],?_,aT.cons hx (aT.nil β)⟩;cases hx with
  |sym c d _ h2 hc hr=>exact(EY hr hc).1
 ·cases h
 ·cases h
 ·cases h;rename_i h1 h2 h3 h4;refine⟨[x'],?_,aT.cons hx (aT.nil β)⟩;cases hx<;>first|rfl|exact absurd rfl (h1 _)|exact absurd rfl (h2 _)|exact absurd rfl (h3 _)|exact absurd rfl (h4 _)
theorem XM{β:ah}{x x':xM}(h:one x=true)(hx:ai β x x'):x'.oneCell'=true:=by
 cases hx with
 |sym c d _ h2 hc hr=>exact(EY hr hc).2
 |_=>first|rfl|cases h
theorem Jw{β:ah}{l l':List xM}(h:eo one l=true)(hl:aT β l l'):∀v∈l',v.oneCell'=true:=by
 intro v hv;obtain⟨i,hi,rfl⟩:=List.getElem_of_mem hv;have eY:i<l.length:=by rw[hl.1];exact hi
 exact XM (mq one l h l[i] (List.getElem_mem eY)) (hl.2 i l[i] l'[i] (by simp[eY]) (by simp[hi]))
section
variable{P:Program}{E:av}(ok:E.Ok P){w0 w:World}{β:ah}{A:AW}(inv:Inv w0 E.G β A w)
def g9(w0:World)(G:GP)(β:ah)(A:AW)(r:Result xM)(v:xM)(A':AW):Prop:=
 ∃ak v' w',r= .ok v' w'∧ai ak v v'∧Inv w0 G ak A' w'∧β.grow ak A.next
include inv in
theorem Wm(cs:List xM)(bu:List xM)(e:xN)(es:Nat)(ex:Bool)(hc:∀ak,β.le ak→aT ak cs bu):
 Inv w0 E.G (β.put A.next ⟨w.heap.size,0,es,bu.length⟩) (A.add ⟨.cells cs,es,ex,false,e⟩) (w.alloc (.cells ⟨bu⟩ e))∧β.grow (β.put A.next ⟨w.heap.size,0,es,bu.length⟩) A.next:=by
 have aR:β.le (β.put A.next ⟨w.heap.size,0,es,bu.length⟩):=inv.fY (ah.uQ β A.next _);have h:=hc _ aR;refine inv.new _ _ _ rfl ⟨⟨bu⟩,e,(0,0),rfl,rfl,by simp[h.1],fun i v hv=> ?_,fun _=>rfl,fun _=>by simp[h.1],rfl,fun _=>rfl⟩;obtain⟨v',du,hr⟩:=h.get hv;exact⟨v',by simpa using du,hr⟩
theorem jy(β:ah)(n:Nat)(l:Loc):(β.put n l) n=some l:=by rw[ah.tF,if_pos rfl]
def tS(β:ah)(w:World)(N:Nat)(r:Result xM)(v:xM)(cs:List xM)(es:Nat)(e:xN):Prop:=
 ∃bu v',r= .ok v' (w.alloc (.cells ⟨bu⟩ e))∧aT β cs bu∧∀ak:ah,ak N=some ⟨w.heap.size,0,es,bu.length⟩→ai ak v v'
include inv in
theorem tS.MK{r:Result xM}{v:xM}{cs:List xM}{es:Nat}{e:xN}(h:tS β w A.next r v cs es e):g9 w0 E.G β A r v (A.add ⟨.cells cs,es,true,false,e⟩):=by
 obtain⟨bu,v',h1,h2,h3⟩:=h;obtain⟨g1,g2⟩:=Wm inv cs bu e es true (fun ak hb=>h2.mono hb);exact⟨_,v',_,h1,h3 _ (jy _ _ _),g1,g2⟩
def yi(E:av)(A:AW)(t:xN):Option (xM×AW):=
 match E.ti.get none t with
 |some r=>bs r.qS (some (.pointer (some ⟨A.next,0,none⟩),A.add ⟨.cells (ez pE r.zero),1,true,false,t⟩)) none
 |none=>none
include ok in
theorem Xf{t:xN}{v:xM}{A':AW}(h:yi E A t=some (v,A'))(β:ah)(w:World):∃cs es e,A'=A.add ⟨.cells cs,es,true,false,e⟩∧tS β w A.next ((Instr.alloc t true (.tuple #[])).run P w) v cs es e:=by
 unfold yi at h;split at h
 ·rename_i r hr;replace h:=aB h;rcases h with⟨hz,h⟩|⟨_,h⟩
  ·cases h;obtain⟨_,i,hi,_,_,eI⟩:=ok.ti t r hr;obtain⟨z,nK,D9⟩:=eI hz;refine⟨_,_,_,rfl,r.zero,.pointer (some ⟨w.heap.size,0+0,none⟩),?_,BS β _,fun ak hN=> .ptr A.next 0 _ hN⟩;simp[Instr.alloc,zeroValue,typeInfo,hi,nK,newVar,newRow,D9]
  ·cases h
 ·cases h
include ok inv in
theorem bo2{t:xN}{v:xM}{A':AW}(h:yi E A t=some (v,A')):g9 w0 E.G β A ((Instr.alloc t true (.tuple #[])).run P w) v A':=by
 obtain⟨cs,es,e,rfl,hf⟩:=Xf ok h β w;exact tS.MK inv hf
def yZ(A:AW)(t:xN)(x:xM):Option (xM×AW):=
 match zQ x with
 |some l=>some (.pointer (some ⟨A.next,0,none⟩),A.add ⟨.cells l,1,true,false,t⟩)
 |none=>none
theorem Y5{t:xN}{x x' v:xM}{A':AW}(h:yZ A t x=some (v,A'))(hx:ai β x x')(w:World):∃cs es e,A'=A.add ⟨.cells cs,es,true,false,e⟩∧tS β w A.next ((Instr.box t x').run P w) v cs es e:=by
 unfold yZ at h;split at h
 ·rename_i l hl;cases h;obtain⟨l',hc,hr⟩:=Og hl hx;refine⟨_,_,_,rfl,l',.pointer (some ⟨w.heap.size,0+0,none⟩),?_,hr,fun ak hN=> .ptr A.next 0 _ hN⟩;simp[Instr.box,newVar,newRow,hc]
 ·cases h
include inv in
theorem bT8{t:xN}{x x' v:xM}{A':AW}(h:yZ A t x=some (v,A'))(hx:ai β x x'):g9 w0 E.G β A ((Instr.box t x').run P w) v A':=by
 obtain⟨cs,es,e,rfl,hf⟩:=Y5 h hx w;exact tS.MK inv hf
def Ay(tG:Nat→Option (Nat×Nat))(ps:List (Nat×xM)):List xM→Option (List xM):=
 List.rec (motive:=fun _=>List xM→Option (List xM)) (fun cs=>some cs)
  (fun p _ ih cs=>match tG p.1,zQ p.2 with
   |some (off,size),some l=>bs (Nat.beq (bE l) size&&Nat.ble (Nat.add off (bE l)) (bE cs)) (ih (jA l off cs)) none
   |_,_=>none) ps
def DQ(β:ah):List (Nat×xM)→List (Nat×xM)→Prop
 |[],[]=>True
 |p::ps,q::qs=>p.1=q.1∧ai β p.2 q.2∧DQ β ps qs
 |_,_=>False
theorem VA(off:Nat):∀(l:List xM) (k:Nat) (cs:List xM),(l.zipIdx k).foldl (fun(cs:Array xM) (p:xM×Nat)=>cs.setIfInBounds (off+p.2) p.1) ⟨cs⟩=⟨jA l (off+k) cs⟩
 |[],_,_=>rfl
 |v::l,k,cs=>by
  rw[List.zipIdx_cons,List.foldl_cons,EI];have:(⟨cs⟩:Array xM).setIfInBounds (off+k) v=⟨cs.set (off+k) v⟩:=by
   apply Array.ext';simp
  simp only [this];rw[VA off l (k+1)];rfl
theorem Jn{β:ah}{tG place':Nat→Option (Nat×Nat)}(hp:∀i p,tG i=some p→place' i=some p):∀(ps qs:List (Nat×xM)) (cs bu r:List xM),Ay tG ps cs=some r→DQ β ps qs→aT β cs bu→
 ∃r',Instr.fill place' ⟨bu⟩ qs=some ⟨r'⟩∧aT β r r'
 |[],qs,cs,bu,r,h,hq,hc=>by
  cases qs with
  |nil=>cases h;exact⟨bu,rfl,hc⟩
  |cons _ _=>exact hq.elim
 |p::ps,qs,cs,bu,r,h,hq,hc=>by
  cases qs with
  |nil=>exact hq.elim
  |cons q qs=>
   obtain⟨i,x⟩:=p;obtain⟨i',x'⟩:=q;obtain⟨hi,hx,nv⟩:=hq;have hi':i=i':=hi;subst hi';have h':(match tG i,zQ x with
    |some (off,size),some l=>bs (Nat.beq (bE l) size&&Nat.ble (Nat.add off (bE l)) (bE cs)) (Ay tG ps (jA l off cs)) none
    |_,_=>none)=some r:=h
   clear h;split at h'
   ·rename_i off size l gi UB;replace h':=aB h';rcases h' with⟨hb,h'⟩|⟨_,h'⟩
    ·rw[xf,dg,dg] at hb;have aU:l.length=size:=xb hb.1;have aR:off+l.length≤cs.length:=xh hb.2;obtain⟨l',dW,gR⟩:=Og UB hx;obtain⟨r',ej,zg⟩:=Jn hp ps qs (jA l off cs) (jA l' off bu) r h' nv (aY2 gR off hc);refine⟨r',?_,zg⟩;have aj2:=VA off l' 0 bu;rw[Nat.add_zero] at aj2;have bE8:(⟨l'⟩:Array xM).zipIdx.foldl (fun(cs:Array xM) (p:xM×Nat)=>cs.setIfInBounds (off+p.2) p.1) ⟨bu⟩=⟨jA l' off bu⟩:=by
      rw[←aj2,←Array.foldl_toList];simp
     have fy:=gR.1;have uC:=hc.1;unfold Instr.fill;simp only [hp _ _ gi,dW];rw[if_neg (by simp;omega)];exact(congrArg (fun z=>Instr.fill place' z qs) bE8).trans ej
    ·cases h'
   ·cases h'
def Cs(E:av)(fs:List Field)(i:Nat):Option (Nat×Nat):=
 match dj fs i with
 |some fd=>match E.ti.get none fd.type with|some r=>some (fd.offset,r.size)|none=>none
 |none=>none
def QW(E:av)(fd:Field):Bool:=match E.ti.get none fd.type with|some _=>true|none=>false
def JR(E:av)(t:xN)(ps:List (Nat×xM)):Option xM:=
 match E.ti.get none t with
 |some ⟨.struct ⟨fs⟩,_,_,z,true⟩=>bs (eo (QW E) fs) (match Ay (Cs E fs) ps (ez pE z) with|some r=>some (.agg ⟨r⟩)|none=>none) none
 |some ⟨.array _ e,_,_,z,true⟩=>match E.ti.get none e with
  |some re=>match Ay (fun i=>some (Nat.mul i re.size,re.size)) ps (ez pE z) with|some r=>some (.agg ⟨r⟩)|none=>none
  |none=>none
 |_=>none
include ok in
theorem Wj:∀(fs:List Field),(∀fd∈fs,QW E fd=true)→∃pl,fs.mapM (fun f=>(P.info? f.type).map fun i=>(f.offset,i.size))=some pl∧∀i p,Cs E fs i=some p→pl[i]? =some p
 |[],_=>⟨[],rfl,fun i p h=>by unfold Cs at h;rw[eL] at h;simp at h⟩
 |fd::fs,hk=>by
  obtain⟨pl,h1,h2⟩:=Wj fs (fun x hx=>hk x (xo _ hx));have eS:=hk fd xn;unfold QW at eS;split at eS
  ·rename_i r hr;obtain⟨_,i,hi,hs,_⟩:=ok.ti fd.type r hr;refine⟨(fd.offset,i.size)::pl,by simp[List.mapM_cons,hi,h1],fun j p hj=> ?_⟩;cases j with
   |zero=>
    unfold Cs at hj;rw[eL] at hj;simp only [List.getElem?_cons_zero,hr] at hj;cases hj;simp[hs]
   |succ j=>
    unfold Cs at hj;rw[eL] at hj;simp only [List.getElem?_cons_succ] at hj⊢;refine h2 j p ?_;unfold Cs;rw[eL];exact hj
  ·cases eS
include ok in
theorem O9{t:xN}{ps qs:List (Nat×xM)}{v:xM}(h:JR E t ps=some v)(hq:DQ β ps qs)(w:World):∃v',(Instr.build t ⟨qs⟩).run P w= .ok v' w∧ai β v v':=by
 unfold JR at h;split at h
 ·rename_i fs _ _ z hr;obtain⟨hu,i,hi,_,_,hz⟩:=ok.ti t _ hr;obtain⟨z',iu,eI⟩:=hz rfl;replace h:=aB h;rcases h with⟨hk,h⟩|⟨_,h⟩
  ·obtain⟨pl,gi,df5⟩:=Wj (P:=P) (E:=E) ok fs (mq _ _ hk);split at h
   ·rename_i r C3;cases h;obtain⟨r',ej,zg⟩:=Jn (β:=β) (place':=(pl.toArray[·]?)) (fun j p hj=>by simpa using df5 j p hj) ps qs _ z r C3 hq (BS β z);refine⟨.agg ⟨r'⟩,run_build w t ⟨qs⟩ ⟨r'⟩ ?_,ai.rR zg⟩;unfold Program.built;simp only [hi,hu,iu,gi,eI];exact ej
   ·cases h
  ·cases h
 ·rename_i n e _ _ z hr;obtain⟨hu,i,hi,_,_,hz⟩:=ok.ti t _ hr;obtain⟨z',iu,eI⟩:=hz rfl;split at h
  ·rename_i re dV;obtain⟨_,ie,gB,hZ,_⟩:=ok.ti e re dV;split at h
   ·rename_i r C3;cases h;obtain⟨r',ej,zg⟩:=Jn (β:=β) (place':=fun i=>some (i*ie.size,ie.size)) (fun j p hj=>by rw[hZ];exact hj) ps qs _ z r C3 hq (BS β z);refine⟨.agg ⟨r'⟩,run_build w t ⟨qs⟩ ⟨r'⟩ ?_,ai.rR zg⟩;unfold Program.built;simp only [hi,hu,iu,gB,eI];exact ej
   ·cases h
  ·cases h
 ·cases h
end
def qG{α:Type}(f:Nat→α)(n:Nat):List α→List α:=Nat.rec (motive:=fun _=>List α→List α) (fun acc=>acc) (fun m ih acc=>ih (f m::acc)) n
theorem x8{α:Type}(f:Nat→α):∀(n:Nat) (acc:List α),qG f n acc=(List.range n).map f++acc
 |0,acc=>rfl
 |n+1,acc=>by
  show qG f n (f n::acc)=_;rw[x8 f n,List.range_succ];simp
section
variable{P:Program}{E:av}(ok:E.Ok P){w0 w:World}{β:ah}{A:AW}(inv:Inv w0 E.G β A w)
def wP(E:av)(A:AW)(t:xN)(len:Nat)(ps:List (Nat×xM)):Option (xM×AW):=
 match E.ti.get none t with
 |some ⟨.slice e,_,_,_,_⟩=>match E.ti.get none e with
  |some re=>bs (Nat.ble (Nat.mul len re.size) 16777216&&re.qS) (match Ay (fun i=>some (Nat.mul i re.size,re.size)) ps (qG (fun _=>J) (Nat.mul len re.size) []) with
   |some r=>some (.slice (some ⟨A.next,0,none⟩) len len,A.add ⟨.cells r,re.size,true,false,e⟩)
   |none=>none) none
  |none=>none
 |_=>none
theorem VB{tG:Nat→Option (Nat×Nat)}:∀(ps:List (Nat×xM)) (cs r:List xM),Ay tG ps cs=some r→r.length=cs.length
 |[],cs,r,h=>by cases h;rfl
 |p::ps,cs,r,h=>by
  have h':(match tG p.1,zQ p.2 with
   |some (off,size),some l=>bs (Nat.beq (bE l) size&&Nat.ble (Nat.add off (bE l)) (bE cs)) (Ay tG ps (jA l off cs)) none
   |_,_=>none)=some r:=h
  clear h;split at h'
  ·replace h':=aB h';rcases h' with⟨_,h'⟩|⟨_,h'⟩
   ·rw[VB ps _ r h',N7]
   ·cases h'
  ·cases h'
include ok in
theorem Vx{t:xN}{len:Nat}{ps qs:List (Nat×xM)}{v:xM}{A':AW}(h:wP E A t len ps=some (v,A'))(hq:DQ β ps qs)(w:World):∃cs es e,A'=A.add ⟨.cells cs,es,true,false,e⟩∧tS β w A.next ((Instr.buildSlice t len ⟨qs⟩).run P w) v cs es e:=by
 unfold wP at h;split at h
 ·rename_i e _ _ _ _ hr;split at h
  ·rename_i re dV;replace h:=aB h;rcases h with⟨hb,h⟩|⟨_,h⟩
   ·rw[xf] at hb;have aR:len*re.size≤16777216:=xh hb.1;split at h
    ·rename_i r C3;cases h;have hu:=(ok.ti t _ hr).1;obtain⟨_,ie,gB,hZ,_,hz⟩:=ok.ti e re dV;obtain⟨z,iu,eI⟩:=hz hb.2;obtain⟨C,hC⟩:∃C:List xM,((Array.range (len*re.size)).map (fun x=>(if len*re.size=0 then #[] else(⟨re.zero⟩:Array xM))[x% (if len*re.size=0 then #[] else(⟨re.zero⟩:Array xM)).size]!))=⟨C⟩:=⟨_,rfl⟩;have Bv:C.length=len*re.size:=by have:=congrArg Array.size hC;simpa using this.symm
     have hlg:(qG (fun _=>J) (Nat.mul len re.size) []).length=len*re.size:=by rw[x8];simp
     have hJ:aT β (qG (fun _=>J) (Nat.mul len re.size) []) C:=by
      refine⟨by rw[hlg,Bv],fun i a b ha hb=> ?_⟩;rw[x8,xj,xx] at ha;cases hq:(List.range (Nat.mul len re.size))[i]? with
      |none=>rw[hq] at ha;cases ha
      |some j=>rw[hq] at ha;cases ha;exact .j9 _
     obtain⟨r',ej,zg⟩:=Jn (β:=β) (place':=fun i=>some (i*re.size,re.size)) (fun j p hj=>hj) ps qs _ C r C3 hq hJ;have aF:r'.length=len*re.size:=by rw[←zg.1,VB ps _ r C3,hlg]
     refine⟨_,_,_,rfl,r',.slice (some ⟨w.heap.size,0+0,none⟩) len len,?_,zg,fun ak hN=> .slice A.next 0 len len len _ hN (xk _) (xk _) (by simp[aF])⟩;have gG: ¬(2^24:Nat)<len*re.size:=by omega
     by_cases h0:len*re.size=0
     ·rw[if_pos h0] at hC;simp only [h0] at hC;simp[Instr.buildSlice,run_underlying hu,dD ok dV,gG,h0];simp at hC;rw[hC];simp[ej,newRow]
     ·rw[if_neg h0] at hC;simp[Instr.buildSlice,run_underlying hu,dD ok dV,gG,h0,zeroValue,typeInfo,gB,iu,eI];simp at hC;rw[hC];simp[ej,newRow]
    ·cases h
   ·cases h
  ·cases h
 ·cases h
include ok inv in
theorem aT4{t:xN}{len:Nat}{ps qs:List (Nat×xM)}{v:xM}{A':AW}(h:wP E A t len ps=some (v,A'))(hq:DQ β ps qs):g9 w0 E.G β A ((Instr.buildSlice t len ⟨qs⟩).run P w) v A':=by
 obtain⟨cs,es,e,rfl,hf⟩:=Vx ok h hq w;exact tS.MK inv hf
def J8(x:xM):Option Nat:=match x with| .int .i64 (.ofNat n)=>some n|_=>none
def wQ(E:av)(A:AW)(t:xN)(l c:xM):Option (xM×AW):=
 match E.ti.get none t,J8 l,J8 c with
 |some ⟨.slice e,_,_,_,_⟩,some l,some c=>match E.ti.get none e with
  |some re=>bs (re.qS&&Nat.beq (bE re.zero) re.size&&Nat.ble l c&&Nat.ble c 9223372036854775807&&Nat.ble (Nat.mul c re.bytes) 140737488355328)
   (some (.slice (some ⟨A.next,0,none⟩) l c,A.add ⟨.cells (qG (fun i=>match dj re.zero (Nat.mod i re.size) with|some v=>pE v|none=>J) (Nat.mul c re.size) []),re.size,true,false,e⟩)) none
  |none=>none
 |_,_,_=>none
theorem WU{x x':xM}{n:Nat}(h:J8 x=some n)(hx:ai β x x'):x'= .int .i64 (n:Int):=by
 unfold J8 at h;split at h
 ·cases h;cases hx;rfl
 ·cases h
include ok in
theorem Vy{t:xN}{l c l' c' v:xM}{A':AW}(h:wQ E A t l c=some (v,A'))(hl:ai β l l')(hc:ai β c c')(w:World):∃cs es e,A'=A.add ⟨.cells cs,es,true,false,e⟩∧tS β w A.next ((Instr.makeSlice t l' c').run P w) v cs es e:=by
 unfold wQ at h;split at h
 ·rename_i e _ _ _ _ ln cn hr US Bo;split at h
  ·rename_i re dV;replace h:=aB h;rcases h with⟨hb,h⟩|⟨_,h⟩
   ·simp only [xf] at hb;obtain⟨⟨⟨⟨vP,sJ⟩,cF⟩,dj3⟩,ru⟩:=hb;have nC:=xb sJ;rw[dg] at nC;have aH9:=xh cF;have co7:=xh dj3;have TC:cn*re.bytes≤140737488355328:=xh ru
    cases h;have hu:=(ok.ti t _ hr).1;obtain⟨_,ie,gB,hZ,zq,hz⟩:=ok.ti e re dV;obtain⟨z,iu,eI⟩:=hz vP;have e1:=WU US hl;have e2:=WU Bo hc;subst e1 e2;obtain⟨C,hC⟩:∃C:List xM,((Array.range (cn*re.size)).map (fun x=>(if cn*re.size=0 then #[] else(⟨re.zero⟩:Array xM))[x% (if cn*re.size=0 then #[] else(⟨re.zero⟩:Array xM)).size]!))=⟨C⟩:=⟨_,rfl⟩;have Bv:C.length=cn*re.size:=by have:=congrArg Array.size hC;simpa using this.symm
    have fQ:∀ak,aT ak (qG (fun i=>match dj re.zero (Nat.mod i re.size) with|some v=>pE v|none=>J) (Nat.mul cn re.size) []) C:=fun ak=>by
     rw[x8,xj];refine⟨by rw[xm,List.length_range];exact Bv.symm,fun i a b ha hb=> ?_⟩;have hi:i<cn*re.size:=by rw[←Bv];exact(xe.1 hb).1
     have h0: ¬cn*re.size=0:=by omega
     rw[xx,show Nat.mul cn re.size=cn*re.size from rfl,List.getElem?_range hi] at ha;simp only [Option.map_some,Option.some.injEq] at ha;have aU:0<re.size:=by
      rcases xI re.size with e|e
      ·rw[e] at hi;omega
      ·exact e
     have hm:i%re.size<re.zero.length:=by rw[nC];exact Nat.mod_lt _ aU
     have NT:C[i]? =some (re.zero[i%re.size]):=by
      have h2:=congrArg (fun a:Array xM=>a[i]?) hC;simp only [if_neg h0] at h2;rw[Array.getElem?_map,Array.getElem?_range] at h2;rw[if_pos hi] at h2;simp only [Option.map_some,List.size_toArray,nC] at h2;rw[show C[i]? =(⟨C⟩:Array xM)[i]? by simp,←h2];simp[hm]
     rw[NT] at hb;cases hb;rw[←ha];have:dj re.zero (Nat.mod i re.size)=some re.zero[i%re.size]:=by rw[eL];show re.zero[i%re.size]? =_;simp[hm]
     rw[this];exact BV ak _
    refine⟨_,_,_,rfl,C,.slice (some ⟨w.heap.size,0+0,none⟩) ln cn,?_,fQ β,fun ak hN=> .slice A.next 0 ln cn cn _ hN aH9 (xk _) (by simp[Bv])⟩;have w1:IntKind.i64.wrap (ln:Int)=(ln:Int):=IntWalk.i64_in _ (by omega);have w2:IntKind.i64.wrap (cn:Int)=(cn:Int):=IntWalk.i64_in _ (by omega);have cg: ¬((281474976710656:Int)<(re.bytes:Int)*(cn:Int)):=by
     have h5:((cn*re.bytes:Nat):Int)≤140737488355328:=by omega
     rw[Int.natCast_mul,Int.mul_comm] at h5;omega
    have nu: ¬roomBytes<cn*re.bytes:=by rw[show roomBytes=140737488355328 from rfl];omega
    have vQ: ¬((cn:Int)<0):=by omega
    have GI: ¬((ln:Int)<0):=by omega
    have su: ¬((cn:Int)<(ln:Int)):=by omega
    by_cases h0:cn*re.size=0
    ·rw[if_pos h0] at hC;simp[Instr.makeSlice,run_underlying hu,asInt,asIntOf,typeInfo,gB,zq,w1,w2,cg,vQ,GI,su,askRoom,nu,dD ok dV,h0,newRow];simp[h0] at hC;rw[hC]
    ·rw[if_neg h0] at hC;simp[Instr.makeSlice,run_underlying hu,asInt,asIntOf,typeInfo,gB,zq,w1,w2,cg,vQ,GI,su,askRoom,nu,dD ok dV,h0,newRow,zeroValue,iu,eI];simp at hC;rw[hC]
   ·cases h
  ·cases h
 ·cases h
include ok inv in
theorem aU0{t:xN}{l c l' c' v:xM}{A':AW}(h:wQ E A t l c=some (v,A'))(hl:ai β l l')(hc:ai β c c'):g9 w0 E.G β A ((Instr.makeSlice t l' c').run P w) v A':=by
 obtain⟨cs,es,e,rfl,hf⟩:=Vy ok h hl hc w;exact tS.MK inv hf
end
section
variable{P:Program}{E:av}(ok:E.Ok P){w0 w:World}{β:ah}{A:AW}(inv:Inv w0 E.G β A w)
theorem Ix(w:World)(g:Nat)(cs:Array xM):w.grownBy (w.setRow g cs) (some g):=
 ⟨rfl,rfl,rfl,by simp,fun k _ hk=>setRow_other w g k cs (fun e=>hk (by rw[e]))⟩
theorem zL(aE:Array xM)(o:Nat)(vs:List xM)(h:o+vs.length≤aE.size)(j:Nat):
 ((aE.toList.take o++vs++aE.toList.drop (o+vs.length)).toArray)[j]? =if o≤j∧j<o+vs.length then vs[j - o]? else aE[j]? :=by
 have aU:(aE.toList.take o).length=o:=by simp;omega
 rw[List.getElem?_toArray,List.append_assoc];by_cases h1:j<o
 ·rw[xw (by omega),if_neg (by omega),List.getElem?_take,if_pos h1,Array.getElem?_toList]
 ·rw[xq (by omega),aU];by_cases h2:j<o+vs.length
  ·rw[xw (by omega),if_pos (by omega)]
  ·rw[xq (by omega),if_neg (by omega),List.getElem?_drop,Array.getElem?_toList]
   congr 1
   omega
theorem Iz(aE:Array xM)(o:Nat)(vs:List xM)(h:o+vs.length≤aE.size):((aE.toList.take o++vs++aE.toList.drop (o+vs.length)).toArray).size=aE.size:=by
 simp;omega
include inv in
theorem EQ{B:Nat}{cs:List xM}{es:Nat}{ex:Bool}{ty:xN}(hg:A.get B=some ⟨.cells cs,es,ex,false,ty⟩)(hB:E.G.n≤B){l:Loc}(hl:β B=some l){o:Nat}{vs oZ:List xM}(hv:aT β vs oZ)(aF:o+vs.length≤cs.length)
 (h1:∀v∈oZ,v.oneCell'=true):∃w',(storeCells ⟨l.b,l.d+o,none⟩ oZ 0).run P w= .ok () w'∧Inv w0 E.G β (A.put B (some ⟨.cells (jA vs o cs),es,ex,false,ty⟩)) w':=by
 obtain⟨aE,e,fz,k1,k2,k3,k4,k5,k6,k7⟩:=inv.cont B _ l hg hl;obtain rfl:=k5 rfl;have mN:=hv.1;have qN:l.d+o+0+oZ.length≤aE.size:=by omega
 have bc:=run_storeCells_at (P:=P) l.b (l.d+o) e oZ 0 aE w k1 qN h1;rw[Nat.add_zero] at bc;refine⟨_,bc,inv.write B l _ _ hg hl hB (Ix w l.b _) (by simp) ?_⟩;rw[setRow_heap w l.b aE _ e (0,0) k1];refine⟨_,e,(0,0),rfl,by rw[Iz _ _ _ (by omega)];exact k2,by rw[N7];exact k3,fun i v hi=> ?_,fun _=>rfl,fun hx=>by rw[N7];exact k6 hx,k7⟩;rw[aY4 vs o cs i aF] at hi;rw[zL _ _ _ (by omega)];by_cases ux:o≤i∧i<o+vs.length
 ·rw[if_pos ux] at hi;rw[if_pos (by omega),show l.d+i - (l.d+o)=i - o by omega];exact hv.get hi
 ·rw[if_neg ux] at hi;rw[if_neg (by omega)];exact k4 i v hi
def yb(E:av)(A:AW)(t:xN)(a x:xM):Option AW:=
 match a with
 | .pointer (some ⟨B,o,none⟩)=>
  match E.ti.get none t,zQ x,A.get B with
  |some r,some l,some ⟨.cells cs,es,ex,false,ty⟩=>
   bs (eo one l&&Nat.beq (bE l) r.size&&Nat.ble E.G.n B&&Nat.ble (Nat.add o (bE l)) (bE cs)) (some (A.put B (some ⟨.cells (jA l o cs),es,ex,false,ty⟩))) none
  |_,_,_=>none
 |_=>none
include ok inv in
theorem bg8{t:xN}{a a' x x':xM}{A':AW}(h:yb E A t a x=some A')(ha:ai β a a')(hx:ai β x x'):∃w',(Instr.storeAt t a' x').run P w= .ok () w'∧Inv w0 E.G β A' w':=by
 unfold yb at h;split at h
 ·rename_i B o;split at h
  ·rename_i r l cs es ex ty hr UB hg;replace h:=aB h;rcases h with⟨hb,h⟩|⟨_,h⟩
   ·simp only [xf,dg] at hb;obtain⟨⟨⟨qL,aU⟩,hG⟩,aR⟩:=hb;have Hg:=xb aU;have nS:=xh hG;have vS:o+l.length≤cs.length:=xh aR;cases h;cases ha with
    |ptr _ _ lc cF=>
     obtain⟨l',dW,gR⟩:=Og UB hx;obtain⟨w',aM,bU⟩:=EQ (P:=P) inv hg nS cF gR vS (Jw qL gR);refine⟨w',?_,bU⟩;have h5:l'.length=r.size:=by rw[←gR.1,Hg]
     simp[Instr.storeAt,Instr.sureAddr,storeVar,dD ok hr,dW,h5,aM]
   ·cases h
  ·cases h
 ·cases h
theorem Inv.ao8(h:Inv w0 E.G β A w){w':World}(l:Loc)(ao:ap)(fy:l.b<w.heap.size)(bF:w0.heap.size≤l.b∨β.x l.b)(hz:β.z l.b=none)(gG:∀C lc,β C=some lc→lc.b=l.b→A.get C=none)
 (hw:w.grownBy w' (some l.b)) (aU:w'.heap.size=w.heap.size) (hb:hM (β.put A.next l) l ao w'.heap[l.b]?) (hp:r7 ao:=by intro c h;cases h):
 Inv w0 E.G (β.put A.next l) (A.add ao) w'∧β.grow (β.put A.next l) A.next:=by
 have aR:β.le (β.put A.next l):=h.fY (ah.uQ β A.next l);have hn:A.get A.next=none:=h.dh _ (xk _);have iV:∀B lb,β.put A.next l B=some lb→(B=A.next∧lb=l)∨(B≠A.next∧β B=some lb):=fun B lb e=>by
  rw[ah.tF] at e;split at e
  ·cases e;exact .inl ⟨by assumption,rfl⟩
  ·exact .inr ⟨by assumption,e⟩
 have ma:∀B,B≠A.next→(A.add ao).get B=A.get B:=fun B hB=>by
  rcases A.rM ao hn B with⟨_,e⟩|e
  ·exact absurd e hB
  ·exact e
 refine⟨⟨h.below.grown hw bF,fun B lb e=> ?_,fun B hB=> ?_,fun B lb e=> ?_,fun B B' lb sH e e' eE ha iz=> ?_,fun B k lb hk e=> ?_,fun g hg=> ?_,
  fun b cs e=>OH hw (fun e2=>by have e':β.z b=some cs:=e;rw[e2,hz] at e';cases e') (h.bH b cs e),fun B lb kb hG e ha hs=> ?_,h.fw,fun B k hk=> ?_,fun B v e=>Nat.lt_succ_of_lt (h.jj B v e),h.lay,h.xg,h.jv,h.zo⟩,ah.uQ β A.next l⟩
 ·show B<A.next+1;rcases iV B lb e with⟨e1,_⟩|⟨_,e⟩
  ·omega
  ·exact Nat.lt_succ_of_lt (h.gU B lb e)
 ·have ry:A.next+1≤B:=hB;rw[ma B (by omega)];exact h.dh B (by omega)
 ·rw[aU];rcases iV B lb e with⟨_,e2⟩|⟨_,e⟩
  ·rw[e2];exact⟨fy,.inr bF⟩
  ·exact h.loc B lb e
 ·rcases iV B lb e with⟨h1,h2⟩|⟨hB,f⟩<;>rcases iV B' sH e' with⟨mf,zy⟩|⟨ry,f'⟩
  ·rw[h1,mf]
  ·rw[h2] at eE;rw[ma B' ry,gG B' sH f' eE.symm] at iz;cases iz
  ·rw[zy] at eE;rw[ma B hB,gG B lb f eE] at ha;cases ha
  ·rw[ma B hB] at ha;rw[ma B' ry] at iz;exact h.inj B B' lb sH f f' eE ha iz
 ·rcases iV B lb e with⟨h1,h2⟩|⟨hB,f⟩
  ·rw[h1] at hk;rw[h2];rcases A.rM ao hn A.next with⟨e2,_⟩|e2
   ·rw[e2] at hk;cases hk;exact hb
   ·rw[e2,hn] at hk;cases hk
  ·rw[ma B hB] at hk;have bq:lb.b≠l.b:=fun e3=>by rw[gG B lb f e3] at hk;cases hk
   rw[hw.block lb.b (h.loc B lb f).1 (fun e3=>bq (xC e3))];exact(h.cont B k lb hk f).mono aR
 ·obtain⟨lg,a,b,c⟩:=h.jm g hg;exact⟨lg,aR.f _ _ a,b,c⟩
 ·rcases iV B lb e with⟨_,h2⟩|⟨hB,f⟩
  ·rw[h2];exact hz
  ·rw[ma B hB] at ha;exact h.sep B lb kb hG f ha hs
 ·rcases A.rM ao hn B with⟨e2,_⟩|e2
  ·rw[e2] at hk;cases hk;exact hp.ok
  ·rw[e2] at hk;exact(h.own B k hk).mono aR
def LS(A:AW)(size:Nat)(x:xM):Option (Nat×List xM):=
 match x with
 | .slice none 0 0=>some (0,[])
 | .slice (some ⟨B,o,none⟩) n _=>bs (Nat.beq n 0) (some (0,[])) (match iP A B with
  |some cs=>match mY (Nat.mul n size) (oO o cs) with|some l=>bs (eo one l) (some (n,l)) none|none=>none
  |none=>none)
 | .string ⟨⟨l⟩⟩=>bs (Nat.beq size 1) (some (bE l,ez (fun b=>Value.int .u8 (.ofNat b.toNat)) l)) none
 |_=>none
def Ja(d:TypeDesc)(x:xM):Bool:=
 match d,x with
 | .slice _,.slice _ _ _=>true
 | .string,.string _=>true
 |_,_=>false
include inv in
theorem Yr{size:Nat}{tx:xN}{d:TypeDesc}(hu:P.underlying tx=some d){x x':xM}{n:Nat}{l:List xM}(h:LS A size x=some (n,l))(hk:Ja d x=true)(hx:ai β x x'):∃l',aT β l l'∧Src P size tx x' n l' w:=by
 unfold LS at h;split at h
 ·cases h;cases hx;cases d<;>first|(cases hk;done)|exact⟨[],aT.nil β,Src.ofNil w hu 0⟩
 ·rename_i B o n' c;have fX:∃e,d= .slice e:=by cases d<;>first|(cases hk;done)|exact⟨_,rfl⟩
  obtain⟨e,rfl⟩:=fX;replace h:=aB h;rcases h with⟨h0,h⟩|⟨h0,h⟩
  ·have sX:=xb h0;subst sX;cases h;cases hx with
   |slice _ _ _ _ c' lc cF hn hc he=>exact⟨[],aT.nil β,Src.ofSlice w hu _ 0 c' [] (by simp) (fun j u hu=>by simp at hu) (fun u hu=>by cases hu)⟩
   |empty _ a' c'=>exact⟨[],aT.nil β,Src.ofSlice w hu _ 0 c' [] (by simp) (fun j u hu=>by simp at hu) (fun u hu=>by cases hu)⟩
  ·split at h
   ·rename_i cs bZ;split at h
    ·rename_i q hq;replace h:=aB h;rcases h with⟨qL,h⟩|⟨_,h⟩
     ·cases h;cases hx with
      |slice _ _ _ _ c' lc cF hn hc he=>
       obtain⟨l',dW,aF,aq⟩:=wV inv bZ cF o _ l hq;exact⟨l',dW,Src.ofSlice w hu _ n c' l' (by rw[←dW.1,aF];rfl) (fun j u hu=>by rw[Addr.add_mid];exact aq j u hu) (Jw qL dW)⟩
      |empty _ a' c'=>cases h0
     ·cases h
    ·cases h
   ·cases h
 ·rename_i s;have fX:d= .string:=by cases d<;>first|(cases hk;done)|rfl
  subst fX;replace h:=aB h;rcases h with⟨h0,h⟩|⟨_,h⟩
  ·have sX:=xb h0;subst sX;cases h;cases hx;refine⟨byteCells ⟨⟨s⟩⟩,?_,?_⟩
   ·have:ez (fun b:UInt8=>Value.int .u8 (.ofNat b.toNat)) s=byteCells ⟨⟨s⟩⟩:=by rw[kV];rfl
    rw[this];refine⟨rfl,fun i v v' a b=> ?_⟩;rw[a] at b;cases b;unfold byteCells at a;rw[xx] at a;obtain⟨q,_,rfl⟩:=xp.1 a;exact .int _ _
   ·have:=Src.ofString (P:=P) w hu ⟨⟨s⟩⟩;rw[dg];exact this
  ·cases h
 ·cases h
end
section
variable{P:Program}{E:av}(ok:E.Ok P){w0 w:World}{β:ah}{A:AW}(inv:Inv w0 E.G β A w)
def Qy(E:av)(t tx:xN)(x:xM):Option (Row×xN):=
 match E.ti.get none t,E.ti.get none tx with
 |some ⟨.slice e,_,_,_,_⟩,some rx=>match E.ti.get none e with
  |some re=>bs (re.qS&&Nat.beq (bE re.zero) re.size&&Nat.ble 1 re.size&&Ja rx.desc x) (some (re,e)) none
  |none=>none
 |_,_=>none
def LB(aD4 bytes:Nat):Bool:=Nat.ble aD4 9223372036854775807&&Nat.ble (Nat.mul aD4 bytes) 140737488355328
def Cj(E:av)(A:AW)(t tx:xN)(s x:xM):Option (xM×AW):=
 match Qy E t tx x with
 |none=>none
 |some (re,e)=>match LS A re.size x with
  |none=>none
  |some (n,l)=>
   match s with
   | .slice none 0 0=>bs (Nat.beq n 0) (some (.slice none 0 0,A)) (bs (LB n re.bytes) (some (.slice (some ⟨A.next,0,none⟩) n n,A.add ⟨.cells l,re.size,false,false,e⟩)) none)
   | .slice (some ⟨B,o,none⟩) sl c=>
    bs (Nat.beq n 0) (some (.slice (some ⟨B,o,none⟩) sl c,A))
    (bs (Nat.beq B rZ) none
    (match A.get B with
    |some ⟨.cells cs,es,ex,ro,ty⟩=>
     bs (Nat.beq es re.size&&Nat.ble sl c) (bs (Nat.ble (Nat.add sl n) c)
      (bs (not ro&&Nat.ble E.G.n B&&Nat.ble (Nat.add (Nat.add o (Nat.mul sl re.size)) (bE l)) (bE cs)) (some (.slice (some ⟨B,o,none⟩) (Nat.add sl n) c,A.put B (some ⟨.cells (jA l (Nat.add o (Nat.mul sl re.size)) cs),es,ex,false,ty⟩))) none)
      (match mY (Nat.mul sl re.size) (oO o cs) with
      |some ei=>bs (LB (Nat.add sl n) re.bytes)
       (bs (ex&&Nat.beq (Nat.add o (Nat.mul c re.size)) (bE cs)) (some (.slice (some ⟨A.next,0,none⟩) (Nat.add sl n) (Nat.add sl n),A.add ⟨.cells (aj ei l),re.size,false,false,e⟩))
        (bs (not ro&&Nat.ble E.G.n B&&Nat.beq ty e) (some (.slice (some ⟨A.next,0,none⟩) (Nat.add sl n) (Nat.add sl n),(A.put B none).add ⟨.cells (aj ei l),re.size,false,false,e⟩)) none)) none
      |none=>none)) none
    |_=>none))
   |_=>none
include inv in
theorem IU(cs bu rest:List xM)(e:xN)(es:Nat)(aE:Array xM)(aI4:aE.toList=bu++rest)(hc:∀ak,β.le ak→aT ak cs bu):
 Inv w0 E.G (β.put A.next ⟨w.heap.size,0,es,aE.size⟩) (A.add ⟨.cells cs,es,false,false,e⟩) (w.drew.alloc (.cells aE e))∧β.grow (β.put A.next ⟨w.heap.size,0,es,aE.size⟩) A.next:=by
 have aR:β.le (β.put A.next ⟨w.heap.size,0,es,aE.size⟩):=inv.fY (ah.uQ β A.next _);have h:=hc _ aR;have aU:aE.size=bu.length+rest.length:=by rw[←Array.length_toList,aI4];simp
 refine(inv.drew (w.drawn+1)).new _ _ _ rfl ⟨aE,e,(0,0),rfl,rfl,by simp[h.1,aU],fun i v hv=> ?_,fun _=>rfl,(fun h=>by cases h),rfl,fun _=>rfl⟩;obtain⟨v',du,hr⟩:=h.get hv;refine⟨v',?_,hr⟩;rw[←Array.getElem?_toList,aI4,Nat.zero_add,xw (xe.1 du).1];exact du
include ok in
theorem bf5{t tx:xN}{x:xM}{re:Row}{e:xN}(h:Qy E t tx x=some (re,e)):∃d ie z,P.underlying t=some (.slice e)∧P.underlying tx=some d∧Ja d x=true∧E.ti.get none e=some re∧P.info? e=some ie∧ie.size=re.size∧ie.bytes=re.bytes∧
 ie.zero=some z∧z.cells.size=re.size∧1≤re.size:=by
 unfold Qy at h;split at h
 ·rename_i e0 _ _ _ _ rx hr HZ;split at h
  ·rename_i r dV;replace h:=aB h;rcases h with⟨hb,h⟩|⟨_,h⟩
   ·cases h;simp only [xf,dg] at hb;obtain⟨⟨⟨hz,hl⟩,h1⟩,hk⟩:=hb;obtain⟨_,ie,gB,hs,ru,eI⟩:=ok.ti e re dV;obtain⟨z,nK,D9⟩:=eI hz;exact⟨rx.desc,ie,z,(ok.ti t _ hr).1,(ok.ti tx _ HZ).1,hk,dV,gB,hs,ru,nK,by rw[D9];exact xb hl,xh h1⟩
   ·cases h
  ·cases h
 ·cases h
theorem EG{t tx ty e:xN}{i:TypeInfo}(ht:P.underlying t=some (.slice e))(hi:P.info? e=some i){x:xM}{de:List xM}(hs:Src P i.size tx x 0 de w)(mG:Option Addr)(sl c:Nat)(aR:sl≤c):
 (Builtin.append_ #[t,tx] ty #[.slice mG sl c,x]).run P w= .ok (.slice mG sl c) w:=by
 have hn:de=[]:=xA (by simpa using hs.newsLen);subst hn;have hc:=hs.cells;cases mG with
 |none=>rcases hs.kind with⟨e',hk⟩|hk<;>simp[Builtin.append_,run_underlying ht,run_underlying hk,sizeOf,typeInfo,hi,hs.len,aR,hc]
 |some a=>rcases hs.kind with⟨e',hk⟩|hk<;>simp[Builtin.append_,run_underlying ht,run_underlying hk,sizeOf,typeInfo,hi,hs.len,aR,hc,storeCells]
theorem Iw(z:Array xM)(n:Nat):(Builtin.zeroCells z n).size=n*z.size:=by simp[Builtin.zeroCells]
include ok inv in
theorem bf4{t tx ty:xN}{s s' x x' v:xM}{A':AW}(h:Cj E A t tx s x=some (v,A'))(hs:ai β s s')(hx:ai β x x'):g9 w0 E.G β A ((Builtin.append_ #[t,tx] ty #[s',x']).run P w) v A':=by
 unfold Cj at h;split at h
 ·cases h
 rename_i re e dV;obtain⟨d,ie,z,hu,HV,hk,hte,gB,hZ,ru,hz,Nv,h1⟩:=bf5 ok dV;split at h
 ·cases h
 rename_i n l tX;obtain⟨l',gR,src⟩:=Yr (P:=P) inv HV tX hk hx;rw[←hZ] at src;have kL:l'.length=n*re.size:=by rw[src.newsLen,hZ]
 split at h
 ·
  cases hs;replace h:=aB h;rcases h with⟨h0,h⟩|⟨h0,h⟩
  ·have sX:=xb h0;subst sX;cases h;exact⟨β,_,w,EG hu gB src none 0 0 (xk _),.tz,inv,ah.ca _ _⟩
  ·replace h:=aB h;rcases h with⟨hf,h⟩|⟨_,h⟩
   ·unfold LB at hf;rw[xf] at hf;have f1:=xh hf.1;have f2:n*re.bytes≤140737488355328:=xh hf.2;cases h;have sX: ¬n=0:=fun e=>by subst e;cases h0
    have aM:=run_append_grow_src (P:=P) w t tx ty e ie z hu gB hz none 0 0 [] (run_firstCells_none w.drew ie.size 0 0 0) x' n l' src (by omega) (by omega) (growslice_fits (by omega) (by rw[ru,Nat.zero_add];exact f2));have dX:=grownCap_ge w (0+n) 0 e;obtain⟨g1,g2⟩:=IU inv l l' (Builtin.zeroCells z.cells (grownCap w (0+n) 0 e - (0+n))).toList e re.size (([]++l').toArray++Builtin.zeroCells z.cells (grownCap w (0+n) 0 e - (0+n))) (by simp) (fun ak hb=>gR.mono hb);refine⟨_,_,_,aM,?_,g1,g2⟩;have hval:=ai.slice (β:=β.put A.next ⟨w.heap.size,0,re.size,(([]++l').toArray++Builtin.zeroCells z.cells (grownCap w (0+n) 0 e - (0+n))).size⟩) A.next 0 n n (grownCap w (0+n) 0 e) _ (jy _ _ _) (xk _) (by omega) (by
     simp only [List.nil_append,Array.size_append,List.size_toArray,Iw,Nv,kL,Nat.zero_add,←Nat.add_mul];apply xD;omega)
    simpa using hval
   ·cases h
 ·rename_i B o sl c;replace h:=aB h;rcases h with⟨h0,h⟩|⟨h0,h⟩
  ·have sX:=xb h0;subst sX;cases h;cases hs with
   |slice _ _ _ _ c' lc cF hn hc he=>exact⟨β,_,w,EG hu gB src _ sl c' (by omega),.slice B o sl c c' lc cF hn hc he,inv,ah.ca _ _⟩
   |empty _ a' c'=>exact⟨β,_,w,EG hu gB src _ 0 c' (by omega),.empty o a' c',inv,ah.ca _ _⟩
  have sX: ¬n=0:=fun e=>by subst e;cases h0
  replace h:=aB h;rcases h with⟨_,h⟩|⟨ht,h⟩
  ·cases h
  split at h
  ·rename_i cs es ex ro y4 hg;replace h:=aB h;rcases h with⟨hb,h⟩|⟨_,h⟩;rotate_left
   ·cases h
   rw[xf] at hb;have cb:=xb hb.1;subst cb;have dE9:=xh hb.2;obtain⟨c',lc,cF,hn,hc,he,rfl⟩:∃c' lc,β B=some lc∧sl≤c∧c≤c'∧lc.d+o+c'*lc.es≤lc.sz∧s'= .slice (some ⟨lc.b,lc.d+o,none⟩) sl c':=by
    cases hs with
    |slice _ _ _ _ c' lc cF hn hc he=>exact⟨c',lc,cF,hn,hc,he,rfl⟩
    |empty=>cases ht
   obtain⟨aE,eb,fz,k1,k2,k3,k4,k5,k6,k7⟩:=inv.cont B _ lc hg cF;have D8:lc.es=re.size:=k7.1;have k8':y4≠jY→eb=y4:=k7.2;replace h:=aB h;rcases h with⟨nu,h⟩|⟨nu,h⟩
   ·
    have YS:sl+n≤c:=xh nu;replace h:=aB h;rcases h with⟨cg,h⟩|⟨_,h⟩;rotate_left
    ·cases h
    simp only [xf,Bool.not_eq_true',dg] at cg;obtain⟨⟨gQ,hG⟩,qN⟩:=cg;subst gQ;have nS:=xh hG;have co2:o+sl*re.size+l.length≤cs.length:=xh qN;cases h;obtain rfl:=k5 rfl;obtain⟨w',bc,bU⟩:=EQ (P:=P) inv hg nS cF gR co2 src.one;have fy:=gR.1;have gd:∀j,j<l'.length→(w.cell? ⟨lc.b,lc.d+o+sl*ie.size+j,none⟩).isSome=true:=fun j hj=>by
     rw[cell_of_row w lc.b _ aE eb (0,0) k1];have:lc.d+o+sl*ie.size+j<aE.size:=by rw[hZ];omega
     simp[this]
    have kN:∀j,j<l'.length→w.frozen? ⟨lc.b,lc.d+o+sl*ie.size+j,none⟩=false:=fun j _=>by simp[World.frozen?,k1]
    have aM:=run_append_room_src (P:=P) w t tx ty e ie hu gB lc.b (lc.d+o) sl c' x' n l' src (by omega) gd kN;have qJ:=run_storeCells_cells (P:=P) lc.b (lc.d+o+sl*ie.size) l' 0 w (by simpa using gd) (by simpa using kN) src.one;rw[Nat.add_zero] at qJ;rw[←Nat.add_assoc,←hZ,qJ] at bc;cases bc;exact⟨β,_,_,aM,.slice B o (sl+n) c c' lc cF YS hc he,bU,ah.ca _ _⟩
   ·have YS: ¬sl+n≤c:=fun e=>by rw[show Nat.add sl n=sl+n from rfl,Nat.ble_eq_true_of_le e] at nu;cases nu
    split at h;rotate_left
    ·cases h
    rename_i ei holds;obtain⟨ym,uu,ai8,aH2⟩:=wV inv (show iP A B=some cs by unfold iP;rw[hg]) cF o _ ei holds;have YV:ym.length=sl*re.size:=by rw[←uu.1,ai8];rfl
    replace h:=aB h;rcases h with⟨hf,h⟩|⟨_,h⟩;rotate_left
    ·cases h
    unfold LB at hf;rw[xf] at hf;have f1:sl+n≤9223372036854775807:=xh hf.1;have f2:(sl+n)*re.bytes≤140737488355328:=xh hf.2;have GM:∀(A1:AW),A1.next=A.next→Inv w0 E.G β A1 w→c'<sl+n→g9 w0 E.G β A ((Builtin.append_ #[t,tx] ty #[.slice (some ⟨lc.b,lc.d+o,none⟩) sl c',x']).run P w) (.slice (some ⟨A.next,0,none⟩) (sl+n) (sl+n)) (A1.add ⟨.cells (aj ei l),re.size,false,false,e⟩):=fun A1 zx pJ aX=>by
     have oe:(Builtin.firstCells ie.size sl (.slice (some ⟨lc.b,lc.d+o,none⟩) sl c')).run P w.drew= .ok ym.toArray w.drew:=
      run_firstCells_some w.drew ie.size sl _ sl c' ym (by rw[hZ];exact YV) (fun j u hu=>by rw[Addr.add_mid];exact aH2 j u hu)
     have aM:=run_append_grow_src (P:=P) w t tx ty e ie z hu gB hz (some ⟨lc.b,lc.d+o,none⟩) sl c' ym oe x' n l' src aX (by omega) (growslice_fits aX (by rw[ru];exact f2));have dX:=grownCap_ge w (sl+n) c' e;obtain⟨g1,g2⟩:=IU pJ (aj ei l) (ym++l') (Builtin.zeroCells z.cells (grownCap w (sl+n) c' e - (sl+n))).toList e re.size ((ym++l').toArray++Builtin.zeroCells z.cells (grownCap w (sl+n) c' e - (sl+n))) (by simp) (fun ak hb=>by rw[iN];exact(uu.append gR).mono hb);rw[zx] at g1 g2;refine⟨_,_,_,aM,?_,g1,g2⟩;have hval:=ai.slice (β:=β.put A.next ⟨w.heap.size,0,re.size,((ym++l').toArray++Builtin.zeroCells z.cells (grownCap w (sl+n) c' e - (sl+n))).size⟩) A.next 0 (sl+n) (sl+n) (grownCap w (sl+n) c' e) _ (jy _ _ _) (xk _) dX (by
      simp only [Array.size_append,List.size_toArray,xa,Iw,Nv,kL,YV,Nat.zero_add,←Nat.add_mul];apply xD;omega)
     simpa using hval
    replace h:=aB h;rcases h with⟨En,h⟩|⟨_,h⟩
    ·
     rw[xf,dg] at En;have yV:o+c*re.size=cs.length:=xb En.2;cases h;refine GM A rfl inv ?_;have h6:=(k6 En.1).2;rw[D8] at he;have h8:c'*re.size≤c*re.size:=by omega
     have h9:c'≤c:=Nat.le_of_mul_le_mul_right h8 (by omega);omega
    ·replace h:=aB h;rcases h with⟨kO,h⟩|⟨_,h⟩;rotate_left
     ·cases h
     simp only [xf,Bool.not_eq_true'] at kO;obtain⟨⟨gQ,hG⟩,ze⟩:=kO;subst gQ;have aF8:=xb ze;have nS:=xh hG;obtain rfl:=k5 rfl;cases h;have pJ:=inv.kill B;by_cases aX:c'<sl+n
     ·exact GM (A.put B none) rfl pJ aX
     ·
      have fy:=gR.1;have Dx:(sl+n)*re.size≤c'*re.size:=xD _ (by omega);rw[Nat.add_mul] at Dx;rw[D8] at he;have gd:∀j,j<l'.length→(w.cell? ⟨lc.b,lc.d+o+sl*ie.size+j,none⟩).isSome=true:=fun j hj=>by
       rw[cell_of_row w lc.b _ aE eb (0,0) k1];have:lc.d+o+sl*ie.size+j<aE.size:=by rw[hZ];omega
       simp[this]
      have kN:∀j,j<l'.length→w.frozen? ⟨lc.b,lc.d+o+sl*ie.size+j,none⟩=false:=fun j _=>by simp[World.frozen?,k1]
      have aM:=run_append_room_src (P:=P) w t tx ty e ie hu gB lc.b (lc.d+o) sl c' x' n l' src (by omega) gd kN;have qJ:=run_storeCells_cells (P:=P) lc.b (lc.d+o+sl*ie.size) l' 0 w (by simpa using gd) (by simpa using kN) src.one;rw[Nat.add_zero] at qJ;have bc:=run_storeCells_at (P:=P) lc.b (lc.d+o+sl*ie.size) eb l' 0 aE w k1 (by rw[hZ];omega) src.one;rw[Nat.add_zero,qJ] at bc;have Tm:=(Result.ok.inj bc).2;rw[Tm] at aM;obtain⟨dh7,dh6⟩:=inv.loc B lc cF;have C2:lc.d+o+sl*ie.size+l'.length≤aE.size:=by rw[hZ];omega
      obtain⟨g1,g2⟩:=Inv.ao8 (E:=E) pJ (w':=w.setRow lc.b (aE.toList.take (lc.d+o+sl*ie.size)++l'++aE.toList.drop (lc.d+o+sl*ie.size+l'.length)).toArray) ⟨lc.b,lc.d+o,re.size,lc.sz⟩ ⟨.cells (aj ei l),re.size,false,false,e⟩ dh7 (dh6.resolve_left (by omega)) (inv.sep B lc _ (by omega) cF hg rfl)
       (fun C lC hC eE=>by
        rcases A.iO B none C with⟨e1,_⟩|⟨e1,_⟩|⟨e1,bq⟩
        ·exact e1
        ·exact e1
        ·rw[e1];cases UX:A.get C with
         |none=>rfl
         |some kk=>exact absurd (inv.inj C B lC lc hC cF eE (by rw[UX];rfl) (by rw[hg];rfl)) bq)
       (Ix w lc.b _) (by simp) (by
        rw[setRow_heap w lc.b aE _ eb (0,0) k1];have dh3:β.le (β.put (A.put B none).next ⟨lc.b,lc.d+o,re.size,lc.sz⟩):=pJ.fY (ah.uQ β _ _);refine⟨_,eb,(0,0),rfl,by rw[Iz _ _ _ C2];exact k2,?_,fun i v hv=> ?_,fun _=>rfl,(fun h=>by cases h),rfl,fun bq=>(k8' (by rw[aF8];exact bq)).trans aF8⟩
        ·show lc.d+o+(aj ei l).length≤lc.sz;rw[iN,xa,ai8,fy,kL];show lc.d+o+(sl*re.size+n*re.size)≤lc.sz;omega
        ·have cx:(ei++l)[i]? =some v:=by rw[←iN];exact hv
         obtain⟨v',du,fQ⟩:=(uu.append gR).get cx;refine⟨v',?_,fQ.mono dh3⟩;show(List.toArray _)[lc.d+o+i]? =some v';rw[zL _ _ _ C2];by_cases hi:i<sl*re.size
         ·rw[if_neg (by rw[hZ];omega)];rw[xw (by omega)] at du;have:=aH2 i v' du;rw[cell_of_row w lc.b _ aE eb (0,0) k1] at this;exact this
         ·rw[xq (by omega)] at du;have Tu:=(xe.1 du).1;rw[if_pos (by rw[hZ];omega),show lc.d+o+i - (lc.d+o+sl*ie.size)=i - ym.length by rw[hZ];omega];exact du)
      have jc:(A.put B none).next=A.next:=rfl;rw[jc] at g1 g2;refine⟨_,_,_,aM,?_,g1,g2⟩;have hval:=ai.slice (β:=β.put A.next ⟨lc.b,lc.d+o,re.size,lc.sz⟩) A.next 0 (sl+n) (sl+n) c' _ (jy _ _ _) (xk _) (by omega) (by simpa using he);simpa using hval
  ·cases h
 ·cases h
end
theorem Y7(a b:List UInt8):((⟨⟨a⟩⟩:ByteArray)==⟨⟨b⟩⟩)=decide (a=b):=by
 show(BEq.beq (⟨a⟩:Array UInt8) ⟨b⟩)=_;by_cases e:a=b
 ·subst e;simp
 ·rw[decide_eq_false e];simp[e]
theorem Wr:∀(ks:List xO) (a b:List xM),gF ks a b=some true→a=b
 |[],a,b,h=>by
  have h':n7 a b=some true:=h;clear h;unfold n7 at h';split at h'
  ·rfl
  ·cases h'
 |k::ks,a,b,h=>by
  have h':mB k (gF ks) a b=some true:=h;clear h;unfold mB at h';split at h'
  ·rename_i j m a j' n b;replace h':=aB h';rcases h' with⟨hk,h'⟩|⟨_,h'⟩
   ·rw[xf] at hk;split at h'
    ·rename_i r hr;have h2:=xC h';replace h2:=aB h2;rcases h2 with⟨hi,h2⟩|⟨_,h2⟩
     ·subst h2;rw[mX] at hi;rw[pg hk.1,pg hk.2,of_decide_eq_true hi,Wr ks a b hr]
     ·cases h2
    ·cases h'
   ·cases h'
  ·cases h'
theorem Wt:∀(ks:List xO) (a b:List xM),gF ks a b=some true→∀n,(a.zip b).all (fun p=>Instr.sameBits (n+1) p.1 p.2)=true
 |[],a,b,h,n=>by
  have h':n7 a b=some true:=h;clear h;unfold n7 at h';split at h'
  ·rfl
  ·cases h'
 |k::ks,a,b,h,n=>by
  have h':mB k (gF ks) a b=some true:=h;clear h;unfold mB at h';split at h'
  ·rename_i j m a1 j' n' b1;replace h':=aB h';rcases h' with⟨hk,h'⟩|⟨_,h'⟩
   ·rw[xf] at hk;split at h'
    ·rename_i r hr;have h2:=xC h';replace h2:=aB h2;rcases h2 with⟨hi,h2⟩|⟨_,h2⟩
     ·subst h2;rw[mX] at hi;have ih:=Wt ks a1 b1 hr n;rw[List.zip_cons_cons,List.all_cons,xf];refine⟨?_,ih⟩;rw[pg hk.1,pg hk.2,of_decide_eq_true hi];simp[Instr.sameBits]
     ·cases h2
    ·cases h'
   ·cases h'
  ·cases h'
def jG(E:av)(sq:List (Nat×List xO))(kt:xN)(k k2:xM):Option Bool:=
 match k,k2 with
 | .int j a,.int j' b=>match E.ti.get none kt with|some ⟨.int _,_,_,_,_⟩=>bs (dq j j') (some (kI a b)) none|_=>none
 | .string ⟨⟨a⟩⟩,.string ⟨⟨b⟩⟩=>match E.ti.get none kt with|some ⟨.string,_,_,_,_⟩=>some (uc a b)|_=>none
 | .agg ⟨a⟩,.agg ⟨b⟩=>match qe sq kt with|some ks=>gF ks a b|none=>none
 |_,_=>none
def n4(E:av)(sq:List (Nat×List xO))(kt:xN)(k:xM)(es:List MapEntry):Nat→Option (Option (Nat×xM)):=
 List.rec (motive:=fun _=>Nat→Option (Option (Nat×xM))) (fun _=>some none) (fun e _ ih i=>match jG E sq kt k e.key with
  |none=>none
  |some true=>some (some (i,e.val))
  |some false=>ih (Nat.add i 1)) es
def zU(E:av)(sq:List (Nat×List xO))(kt:xN)(k:xM):Bool:=
 match jG E sq kt k k with
 |some true=>true
 |_=>false
def eX(β:ah)(es aD:List MapEntry):Prop:=es.length=aD.length∧∀(i:Nat) e e',es[i]? =some e→aD[i]? =some e'→v7 β e e'
theorem eX.kS{β:ah}{e:MapEntry}{es r:List MapEntry}(h:eX β (e::es) r):∃e' aD,r=e'::aD∧v7 β e e'∧eX β es aD:=by
 cases r with
 |nil=>exact absurd h.1 (by simp)
 |cons e' l'=>exact⟨e',l',rfl,h.2 0 e e' rfl rfl,by have:=h.1;simpa using this,fun i a b ha hb=>h.2 (i+1) a b (by simpa using ha) (by simpa using hb)⟩
theorem eX.mV{β:ah}{r:List MapEntry}(h:eX β [] r):r=[]:=by
 cases r with
 |nil=>rfl
 |cons _ _=>exact absurd h.1 (by simp)
def TW(β:ah)(aD:List MapEntry)(r r':Option (Nat×xM)):Prop:=
 (r=none∧r'=none)∨∃j v v',r=some (j,v)∧r'=some (j,v')∧ai β v v'
section
variable{P:Program}{E:av}(ok:E.Ok P){sq:List (Nat×List xO)}(aY:E.Seq P sq){w0 w:World}{β:ah}{A:AW}
theorem Oq{kt:xN}{d:TypeDesc}{k k':xM}(hs:∀k2 fF b,jG E sq kt k k2=some b→ai β k2 fF→Instr.sameNow d k' fF=some b):∀(es aD:List MapEntry) (i:Nat) (r:Option (Nat×xM)),n4 E sq kt k es i=some r→eX β es aD→
 ∃r',Instr.findNow d k' aD i=some r'∧TW β aD r r'
 |[],aD,i,r,h,hm=>by
  rw[hm.mV];cases h;exact⟨none,rfl,.inl ⟨rfl,rfl⟩⟩
 |e::es,aD,i,r,h,hm=>by
  obtain⟨e',yX,rfl,⟨hb,hk,hv⟩,zk⟩:=hm.kS;have h':(match jG E sq kt k e.key with
   |none=>none
   |some true=>some (some (i,e.val))
   |some false=>n4 E sq kt k es (i+1))=some r:=h
  clear h;split at h'
  ·cases h'
  ·rename_i hq;cases h';exact⟨some (i,e'.val),by simp[Instr.findNow,hs _ _ _ hq hk],.inr ⟨i,e.val,e'.val,rfl,rfl,hv⟩⟩
  ·rename_i hq;obtain⟨r',h1,h2⟩:=Oq hs es yX (i+1) r h' zk;exact⟨r',by simp[Instr.findNow,hs _ _ _ hq hk,h1],h2⟩
theorem Vu{kt:xN}{k k':xM}(hs:∀k2 fF b,jG E sq kt k k2=some b→ai β k2 fF→(Op.equal kt k' fF).run P w= .ok b w):∀(es aD:List MapEntry) (i:Nat) (r:Option (Nat×xM)),n4 E sq kt k es i=some r→eX β es aD→
 ∃r',(Instr.findAsking kt k' aD i).run P w= .ok r' w∧TW β aD r r'
 |[],aD,i,r,h,hm=>by
  rw[hm.mV];cases h;exact⟨none,by simp[Instr.findAsking],.inl ⟨rfl,rfl⟩⟩
 |e::es,aD,i,r,h,hm=>by
  obtain⟨e',yX,rfl,⟨hb,hk,hv⟩,zk⟩:=hm.kS;have h':(match jG E sq kt k e.key with
   |none=>none
   |some true=>some (some (i,e.val))
   |some false=>n4 E sq kt k es (i+1))=some r:=h
  clear h;split at h'
  ·cases h'
  ·rename_i hq;cases h';exact⟨some (i,e'.val),by simp[Instr.findAsking,hs _ _ _ hq hk],.inr ⟨i,e.val,e'.val,rfl,rfl,hv⟩⟩
  ·rename_i hq;obtain⟨r',h1,h2⟩:=Vu hs es yX (i+1) r h' zk;exact⟨r',by simp[Instr.findAsking,hs _ _ _ hq hk,h1],h2⟩
include ok aY in
theorem Cf{kt:xN}{k k':xM}(hk:zU E sq kt k=true)(NE:ai β k k'){es aD:List MapEntry}{r:Option (Nat×xM)}(h:n4 E sq kt k es 0=some r)(hm:eX β es aD)(w:World):
 (∃r',(Instr.findKey kt k' aD).run P w= .ok r' w∧TW β aD r r')∧(∀em,(Instr.checkKey em 10000 kt k').run P w= .ok () w)∧k'=k∧Instr.sameBits 10000 k k=true∧(∀k2 fF,jG E sq kt k k2=some true→ai β k2 fF→fF=k):=by
 unfold zU at hk;split at hk
 ·rename_i iL;cases k with
  |int j a=>
   have mF:=iL;simp only [jG] at mF;split at mF
   ·rename_i kd _ _ _ _ hr;cases NE;have hu:=(ok.ti kt _ hr).1;have hs:∀k2 fF b,jG E sq kt (.int j a) k2=some b→ai β k2 fF→Instr.sameNow (.int kd) (.int j a) fF=some b∧(b=true→fF= .int j a):=fun k2 fF b hq hv=>by
     cases k2<;>simp only [jG] at hq<;>try(cases hq;done)
     rename_i j2 a2;rw[hr] at hq;simp only at hq;replace hq:=aB hq;rcases hq with⟨hj,hq⟩|⟨_,hq⟩
     ·have rn:=pg hj;subst rn;cases hq;cases hv;rw[mX];refine⟨by simp[Instr.sameNow];rfl,fun hb=> ?_⟩;rw[of_decide_eq_true hb]
     ·cases hq
    obtain⟨r',h1,h2⟩:=Oq (fun k2 fF b hq hv=>(hs k2 fF b hq hv).1) es aD 0 r h hm;refine⟨⟨r',by simp[Instr.findKey,run_underlying hu,h1],h2⟩,fun em=> ?_,rfl,by simp[Instr.sameBits],fun k2 fF hq hv=>(hs k2 fF true hq hv).2 rfl⟩;rw[show(10000:Nat)=9999+1 from rfl,Instr.checkKey];simp[run_underlying hu]
   ·cases mF
  |string b=>
   obtain⟨⟨a⟩⟩:=b;have mF:=iL;simp only [jG] at mF;split at mF
   ·rename_i _ _ _ _ hr;cases NE;have hu:=(ok.ti kt _ hr).1;have hs:∀k2 fF b,jG E sq kt (.string ⟨⟨a⟩⟩) k2=some b→ai β k2 fF→Instr.sameNow .string (.string ⟨⟨a⟩⟩) fF=some b∧(b=true→fF= .string ⟨⟨a⟩⟩):=fun k2 fF b hq hv=>by
     cases k2<;>simp only [jG] at hq<;>try(cases hq;done)
     rename_i s2;obtain⟨⟨a2⟩⟩:=s2;rw[hr] at hq;simp only at hq;cases hq;cases hv;rw[ya];refine⟨?_,fun hb=>by rw[of_decide_eq_true hb]⟩;simp only [Instr.sameNow]
     congr 1
     exact Y7 a a2
    obtain⟨r',h1,h2⟩:=Oq (fun k2 fF b hq hv=>(hs k2 fF b hq hv).1) es aD 0 r h hm;refine⟨⟨r',by simp[Instr.findKey,run_underlying hu,h1],h2⟩,fun em=> ?_,rfl,by simp only [Instr.sameBits];rw[Y7];exact decide_eq_true rfl,fun k2 fF hq hv=>(hs k2 fF true hq hv).2 rfl⟩;rw[show(10000:Nat)=9999+1 from rfl,Instr.checkKey];simp[run_underlying hu]
   ·cases mF
  |agg b=>
   obtain⟨a⟩:=b;have mF:=iL;simp only [jG] at mF;split at mF
   ·rename_i ks gJ;have bN:k'= .agg ⟨a⟩:=by
     cases NE with
     |agg _ p' hp h1=>obtain⟨rfl,_⟩:=IL ks a a p' p' true mF ⟨hp,h1⟩ ⟨hp,h1⟩;rfl
    subst bN;have hs:∀k2 fF b,jG E sq kt (.agg ⟨a⟩) k2=some b→ai β k2 fF→(Op.equal kt (.agg ⟨a⟩) fF).run P w= .ok b w∧(b=true→fF= .agg ⟨a⟩):=fun k2 fF b hq hv=>by
     cases k2<;>simp only [jG] at hq<;>try(cases hq;done)
     rename_i s2;obtain⟨a2⟩:=s2;rw[gJ] at hq;simp only at hq;cases hv with
     |agg _ p' hp h1=>
      cases NE with
      |agg _ q' Ef h2=>
       obtain⟨_,rfl⟩:=IL ks a a2 a p' b hq ⟨Ef,h2⟩ ⟨hp,h1⟩;refine⟨aY.eq kt ks a _ b gJ hq w,fun hb=> ?_⟩;subst hb;rw[Wr ks a _ hq]
    obtain⟨r',h1,h2⟩:=Vu (P:=P) (w:=w) (fun k2 fF b hq hv=>(hs k2 fF b hq hv).1) es aD 0 r h hm;refine⟨⟨r',?_,h2⟩,fun em=>aY.key kt ks a gJ mF em w,rfl,?_,fun k2 fF hq hv=>(hs k2 fF true hq hv).2 rfl⟩
    ·obtain⟨d,hd⟩:=aY.und kt ks gJ;cases aD with
     |nil=>
      have:r'=none:=by simp[Instr.findAsking] at h1;exact h1.symm
      subst this;simp[Instr.findKey,run_underlying hd,Instr.findNow]
     |cons e' yX=>
      have hsn:Instr.sameNow d (.agg ⟨a⟩) e'.key=none:=by
       cases d<;>rfl
      simp[Instr.findKey,run_underlying hd,Instr.findNow,hsn,h1]
    ·have:=Wt ks a a mF 9998;rw[show(10000:Nat)=9999+1 from rfl,Instr.sameBits];simpa using this
   ·cases mF
  |_=>simp only [jG] at iL;cases iL
 ·cases hk
end
end
end Go.Ex
