/- A verified evaluator of Go functions. -/
import Derived.Test.YtaginlnifpbfgaaGreatDoorX5
import Derived.Lib.MakeNoZero
import Derived.Lib.Bytealg
set_option linter.unusedVariables false
set_option linter.unusedSimpArgs false
namespace Go.Ex
open Go.RowKit
noncomputable section
def Kh(A:AW):xM×AW:=(.map (some A.next),A.add ⟨.maps (.slice none 0 0),1,true,false,0⟩)
def RA(E:aq)(A:AW)(t:xN)(m k v:xM):Option AW:=
 match E.ti.get none t,m with
 |some ⟨.map kt _,_,_,_,_⟩,.map (some B)=>match E.ti.get none kt,A.get B with
  |some ⟨.string,_,_,_,_⟩,some ⟨.maps c,a,b,false,d⟩=>bs (Nat.ble E.G.n B) (match oQ A .DR [c,k,v] with
   |some (u,A1)=>some (A1.put B (some ⟨.maps u,a,b,false,d⟩))
   |none=>none) none
  |_,_=>none
 |_,_=>none
def tR(s:List UInt8):List (List D)→Option Nat|[]=>none|row::t=>if QI s row then some 0 else(tR s t).map (· +1)
theorem VF{s:List UInt8}{v:D}:∀{rows:List (List D)},tR s rows=none→vH s v rows=rows++[[.str s,v]]
 |[],_=>rfl
 |row::t,h=>by
  unfold tR at h;unfold vH;split at h
  ·cases h
  ·rename_i hk;rw[if_neg hk,VF (by simpa using h)];rfl
theorem VE{s:List UInt8}{v:D}:∀{rows:List (List D)} {i:Nat},tR s rows=some i→vH s v rows=rows.set i [.str s,v]∧i<rows.length
 |[],i,h=>by cases h
 |row::t,i,h=>by
  unfold tR at h;unfold vH;split at h
  ·rename_i hk;cases h;rw[if_pos hk];exact⟨rfl,Nat.succ_pos _⟩
  ·rename_i hk;obtain⟨j,hj,rfl⟩:=xp.1 h;obtain⟨e1,e2⟩:=VE (v:=v) hj;rw[if_neg hk,e1];exact⟨rfl,Nat.succ_lt_succ e2⟩
def If(es:List MapEntry):List MapEntry:=es.map fun e=>⟨e.key,J,e.born⟩
theorem bb0{β:af}{rows:List (List D)}{es:List MapEntry}(h:yn β.z rows es):eU β (If es) es:=by
 refine⟨by simp[If],fun i e e' h1 h2=> ?_⟩;unfold If at h1;rw[xx,h2] at h1;cases h1;have hi:i<rows.length:=by rw[h.1];exact(xe.1 h2).1
 obtain⟨s,d,_,hk,_⟩:=h.2 i _ e' (xc hi) h2;exact⟨rfl,by show ai β e'.key e'.key;rw[hk];exact .string _,.kL _⟩
theorem V4{E:aq}{kt:xN}{a1 a2 a3 a4}(hr:E.ti.get none kt=some ⟨.string,a1,a2,a3,a4⟩){z:Nat→Option (Array xM)}(s:List UInt8):∀(rows:List (List D)) (es:List MapEntry) (i:Nat),yn z rows es→
 pE E [] kt (.string ⟨⟨s⟩⟩) (If es) i=some ((tR s rows).map fun j=>(i+j,J))
 |[],es,i,h=>by
  have:es=[]:=xA h.1.symm;subst this;rfl
 |row::rows,[],i,h=>by simp[yn] at h
 |row::rows,e::es,i,h=>by
  obtain⟨a,d,fI,hk,_⟩:=h.2 0 row e rfl rfl;have ht:yn z rows es:=⟨by have:=h.1;simpa using this,fun j r e h1 h2=>h.2 (j+1) r e (by simpa using h1) (by simpa using h2)⟩;show(match jZ E [] kt (.string ⟨⟨s⟩⟩) e.key with
   |none=>none
   |some true=>some (some (i,J))
   |some false=>pE E [] kt (.string ⟨⟨s⟩⟩) (If es) (i+1))=_
  have hke:jZ E [] kt (.string ⟨⟨s⟩⟩) e.key=some (decide (s=a)):=by
   rw[hk];show(match E.ti.get none kt with|some ⟨.string,_,_,_,_⟩=>some (vE s a)|_=>none)=_;rw[hr,zb]
  rw[hke];unfold tR;rw[fI];show _=some (Option.map _ (if decide (s=a)=true then some 0 else _));by_cases TT:s=a
  ·rw[if_pos (decide_eq_true TT),decide_eq_true TT];rfl
  ·rw[decide_eq_false TT,if_neg (by decide),V4 hr s rows es (i+1) ht];cases tR s rows with
   |none=>rfl
   |some j=>simp;omega
theorem Jq{v:xM}(h:gF v=true):∃c,v= .chan (some (c+1)):=by
 unfold gF at h;split at h
 ·exact⟨_,rfl⟩
 ·cases h
section
variable{P:Program}{E:aq}(ok:E.Ok P)
theorem bc7:E.Seq P []:=by
 constructor
 all_goals intros
 all_goals first|(rename_i h _;cases h;done)|skip
 all_goals simp_all [rP]
theorem aP2{w0 w:World}{A:AW}{β:af}(inv:Inv w0 E.G β A w)(t:xN):hO w0 E.G β A ((Instr.makeMap t none).run P w) (Kh A).1 (Kh A).2:=by
 obtain⟨h1,h2⟩:=inv.new ⟨.maps (.slice none 0 0),1,true,false,0⟩ (.map #[] 0) ⟨w.heap.size,0,1,0⟩ rfl ⟨[],0,[],rfl,rfl,rfl,fun i row e h=>by simp at h⟩;exact⟨_,.map (some w.heap.size),_,by simp[Instr.makeMap],.map A.next _ (jl _ _ _),h1,h2⟩
include ok in
theorem bb8{w0 w:World}{A A':AW}{β:af}{t:xN}{m m' k k' v v':xM}(h:RA E A t m k v=some A')(inv:Inv w0 E.G β A w)(hm:ai β m m')(hk:ai β k k')(hv:ai β v v'):∃w',(Instr.mapUpdate t m' k' v').run P w= .ok () w'∧Inv w0 E.G β A' w'∧A.next≤A'.next:=by
 unfold RA at h;split at h;rotate_left
 ·cases h
 rename_i kt et _ _ _ _ B hr;have hu:=(ok.ti t _ hr).1;split at h;rotate_left
 ·cases h
 rename_i c a b d FC hg;replace h:=au h;rcases h with⟨hG,h⟩|⟨_,h⟩;rotate_left
 ·cases h
 split at h;rotate_left
 ·cases h
 rename_i u A1 eA;cases h;have pg:=xh hG;obtain⟨nd,rt,cu,ht,jj,ga,ig,rfl,rfl⟩:=p8 eA;have hq:dt β.d nd:=ok.q _ _ (inv.eO nd (by rw[ht];exact xn));unfold dt at hq;rw[jj] at hq;obtain⟨ds,dd,q1,q2,q3⟩:=hq;rw[ga] at q1;rw[ig] at q2;obtain⟨q4,q5⟩:=oq q2;obtain⟨dm,ds1,rfl,e1,q7⟩:=jB q1;obtain⟨dk,dv,rfl,e2,e3⟩:=om q7;cases hm with
 |map _ l hl=>
  obtain⟨ax,ck,rows,g1,g2,g3⟩:=inv.cont B _ l hg hl;rw[zh g2] at e1;cases e1;have bN:OR (.sl rows) dk dv=some dd:=q3;unfold OR at bN;split at bN;rotate_left
  ·cases bN
  rename_i KJ s xU;cases xU;split at bN;rotate_left
  ·cases bN
  rename_i gh;cases bN;have jP:=fY e2 hk;cases jP;have cM:=fY e3 hv;have bT6:=V4 (E:=E) FC (z:=β.z) s rows ax 0 g3;have jy:Bl E [] kt (.string ⟨⟨s⟩⟩)=true:=by
   unfold Bl;have:jZ E [] kt (.string ⟨⟨s⟩⟩) (.string ⟨⟨s⟩⟩)=some true:=by
    show(match E.ti.get none kt with|some ⟨.string,_,_,_,_⟩=>some (vE s s)|_=>none)=_;rw[FC,zb,decide_eq_true rfl]
   rw[this]
  obtain⟨⟨r',f1,f2⟩,f3,f4,f5,f6⟩:=JZ (P:=P) ok bc7 jy (.string (β:=β) ⟨⟨s⟩⟩) bT6 (bb0 g3) w;have iV:(getObj l.b).run P w= .ok (.map ⟨ax⟩ ck) w:=by simp[getObj,Sem.run,g1]
  have bg:l.b<w.heap.size:=(Array.getElem?_eq_some_iff.1 g1).1;have fin:∀(pj:List MapEntry) (ck2:Nat),yn β.z (vH s dv rows) pj→(setObj l.b (.map ⟨pj⟩ ck2)).run P w= .ok () {w with heap:=w.heap.setIfInBounds l.b (.map ⟨pj⟩ ck2)}∧Inv w0 E.G β ((A.pop rt).put B (some ⟨.maps (.chan (some (cu+1))),a,b,false,d⟩)) {w with heap:=w.heap.setIfInBounds l.b (.map ⟨pj⟩ ck2)}:=fun pj ck2 eV=>by
   refine⟨by simp[setObj,Sem.run,g1],?_⟩;have i2:=inv.pop (r:=rt) (fun x hx=>by rw[ht];exact xo _ hx);refine i2.write B l _ _ hg hl pg ⟨rfl,rfl,rfl,by simp,fun k hk bA=> ?_⟩ (by simp) ?_
   ·show(w.heap.setIfInBounds l.b _)[k]? =_;rw[Array.getElem?_setIfInBounds_ne (fun e=>bA (by rw[e]))]
   ·show gH β l _ ((w.heap.setIfInBounds l.b _)[l.b]?);rw[Array.getElem?_setIfInBounds_self_of_lt bg];exact⟨pj,ck2,_,rfl,by show(β.d cu).bind _=_;rw[q4];rfl,eV⟩
  cases IJ:tR s rows with
  |none=>
   rw[IJ] at f2;have dY:r'=none:=by
    rcases f2 with⟨_,e⟩|⟨_,_,_,e,_⟩
    ·exact e
    ·cases e
   subst dY;have IB:=VF (v:=dv) IJ;obtain⟨aJ,bV⟩:=fin (ax++[⟨.string ⟨⟨s⟩⟩,v',ck⟩]) (ck+1) (by
    rw[IB];refine⟨by simp[g3.1],fun i row e h1 h2=> ?_⟩;by_cases hi:i<rows.length
    ·rw[xw hi] at h1;rw[xw (by rw[←g3.1];exact hi)] at h2;exact g3.2 i row e h1 h2
    ·rw[xq (by omega)] at h1;rw[xq (by rw[←g3.1];omega),←g3.1] at h2;cases hq:i - rows.length with
     |zero=>rw[hq] at h1 h2;simp at h1 h2;subst h1;subst h2;exact⟨s,dv,rfl,rfl,cM⟩
     |succ q=>rw[hq] at h1;simp at h1)
   refine⟨_,?_,bV,xk _⟩;have BH:(⟨ax⟩:Array MapEntry).push ⟨.string ⟨⟨s⟩⟩,v',ck⟩=⟨ax++[⟨.string ⟨⟨s⟩⟩,v',ck⟩]⟩:=by apply Array.ext';simp
   simp only [Instr.mapUpdate,Sem.run_bind,run_underlying hu,iV,f3,f1,Result.andThen_ok];rw[BH];exact aJ
  |some j0=>
   rw[IJ] at f2;obtain⟨IB,AJ⟩:=VE (v:=dv) IJ;have dY:∃v1,r'=some (j0,v1):=by
    rcases f2 with⟨e,_⟩|⟨j1,v1,yt,e,e2,_⟩
    ·cases e
    ·have e:some (0+j0,J)=some (j1,v1):=e;injection e with e;injection e with e3 e4;exact⟨yt,by rw[e2,←e3,Nat.zero_add]⟩
   obtain⟨yt,rfl⟩:=dY;have lX:j0<ax.length:=by rw[←g3.1];exact AJ
   have cS:ax[j0]? =some ax[j0]:=xc lX;obtain⟨s0,d0,bS0,bT3,_⟩:=g3.2 j0 _ _ (xc AJ) cS;have Fx:s0=s:=by
    have:∀(rows:List (List D)) (j:Nat),tR s rows=some j→∀row,rows[j]? =some row→QI s row=true:=by
     intro rows
     induction rows with
     |nil=>intro j h;cases h
     |cons r t ih=>
      intro j h row fI;unfold tR at h;split at h
      ·rename_i hk;cases h;simp at fI;subst fI;exact hk
      ·obtain⟨i,hi,rfl⟩:=xp.1 h;exact ih i hi row (by simpa using fI)
    have:=this rows j0 IJ _ (xc AJ);rw[bS0] at this;exact(of_decide_eq_true this).symm
   subst Fx;obtain⟨aJ,bV⟩:=fin (ax.set j0 ⟨.string ⟨⟨s0⟩⟩,v',ax[j0].born⟩) ck (by
    rw[IB];refine⟨by simp[g3.1],fun i row e h1 h2=> ?_⟩;rw[List.getElem?_set] at h1 h2;by_cases hi:j0=i
    ·subst hi;rw[if_pos rfl,if_pos AJ] at h1;rw[if_pos rfl,if_pos lX] at h2;cases h1;cases h2;exact⟨s0,dv,rfl,rfl,cM⟩
    ·rw[if_neg hi] at h1 h2;exact g3.2 i row e h1 h2)
   refine⟨_,?_,bV,xk _⟩;have uj:=Jm cS (fun e=>{e with key:= .string ⟨⟨s0⟩⟩,val:=v'});have cO7:(Instr.keyThatStays ((((⟨ax⟩:Array MapEntry)[j0]?).map (·.key)).getD (.string ⟨⟨s0⟩⟩)) (.string ⟨⟨s0⟩⟩)).run P w= .ok (.string ⟨⟨s0⟩⟩) w:=by
    have:(((⟨ax⟩:Array MapEntry)[j0]?).map (·.key)).getD (.string ⟨⟨s0⟩⟩)= .string ⟨⟨s0⟩⟩:=by simp[cS,bT3]
    rw[this];simp[Instr.keyThatStays,f5]
   simp only [Instr.mapUpdate,Sem.run_bind,run_underlying hu,iV,f3,f1,Result.andThen_ok,cO7];rw[uj];exact aJ
end
def M0(g:Nat)(l:List (Nat×Nat)):Option Nat:=List.rec (motive:=fun _=>Option Nat) none (fun a _ ih=>bs (Nat.beq g a.1) (some a.2) ih) l
theorem Pg{g t:Nat}:∀{l:List (Nat×Nat)},M0 g l=some t→(g,t)∈l
 |[],h=>by cases h
 |a::l,h=>by
  have h':bs (Nat.beq g a.1) (some a.2) (M0 g l)=some t:=h;rcases au h' with⟨h1,h2⟩|⟨_,h2⟩
  ·cases h2;have:=xb h1;subst this;exact xn
  ·exact xo _ (Pg h2)
def RY(E:aq)(A:AW)(f n:xM):Option (xM×AW):=
 match f with
 | .func (.func g) ⟨[]⟩ ⟨[]⟩=>match M0 g E.mz with
  |some t=>match E.ti.get none t with
   |some ⟨.slice e,_,_,_,_⟩=>bs (gF n) (match oQ A (.gR 1 1) [n,n,.int .u8 (.ofNat 0)] with
    |some (_,A1)=>(match oQ A1 (.bB 1 0) [] with
     |some (u,A2)=>(match Dv A2 none u 1 e with|some A3=>some (.iface A2.next (.tuple ⟨[]⟩),A3)|none=>none)
     |none=>none)
    |none=>none) none
   |_=>none
  |none=>none
 |_=>none
def Qx(E:aq)(A:AW)(t:xN)(x lo:xM)(hi:List xM):Option (xM×AW):=
 match E.ti.get none t,x,hi,A.tape with
 |some ⟨.array len e,_,_,_,_⟩,.pointer (some ⟨B,o,none⟩),[],nd::r=>match jn E e with
  |some n=>bs (Nat.beq n 1&&gF lo&&uf nd.k .kW&&kK nd.args [.int .i64 (.ofNat len),lo]&&qT nd.res (.bool true)) (some (.iface B (.tuple ⟨[lo,.int .i64 (.ofNat o),.int .i64 (.ofNat len)]⟩),A.pop r)) none
  |none=>none
 |_,_,_,_=>none
def PP(E:aq)(A:AW)(t:xN)(x lo:xM)(hi:List xM):Option (xM×AW):=
 match PQ E A t x lo hi with
 |some r=>some r
 |none=>Qx E A t x lo hi
def Rr(E:aq)(A:AW)(t tx:xN)(d x:xM):Option (xM×AW):=
 match d,E.ti.get none t with
 | .iface B (.chan (some (_+1))),some ⟨.slice e,_,_,_,_⟩=>match jn E e,x with
  |some _,.slice none 0 0=>some (.int .i64 (.ofNat 0),A)
  |some z,x=>match ng E.G.n 4 x A with
   |some (u,A1)=>match A1.get B,A1.tape with
    |some ⟨.own c,es,ex,false,ty⟩,nd::r=>match nd.res with
     | .agg ⟨[cn,y]⟩=>bs (Nat.beq z es&&Nat.ble 1 z&&Bt E tx&&uf nd.k (.qn z)&&kK nd.args [c,u]&&gF cn&&gF y&&Nat.ble E.G.n B) (some (cn,(A1.pop r).put B (some ⟨.own y,es,ex,false,ty⟩))) none
     |_=>none
    |_,_=>none
   |none=>none
  |none,_=>none
 | .iface B (.tuple ⟨[iv,.int .i64 (.ofNat off),.int .i64 (.ofNat n)]⟩),some ⟨.slice e,_,_,_,_⟩=>match jn E e,A.get B,A.tape with
  |some z,some ⟨.cells cs,es,ex,false,ty⟩,nd::r=>match ow n (qd off cs),nd.res with
   |some eu,.agg ⟨cn::dw⟩=>bs (Nat.beq z 1&&gF x&&Bt E tx&&uf nd.k (.FX n)&&kK nd.args (iv::x::eu)&&Nat.beq (bI dw) n&&ey gF dw&&Nat.ble E.G.n B) (some (cn,(A.pop r).put B (some ⟨.cells (jV dw off cs),es,ex,false,ty⟩))) none
   |_,_=>none
  |_,_,_=>none
 |_,_=>none
section
variable{P:Program}{E:aq}(ok:E.Ok P)
include ok in
theorem be4{w0 w:World}{A A':AW}{β:af}{f f' n n' v:xM}(h:RY E A f n=some (v,A'))(inv:Inv w0 E.G β A w)(hf:ai β f f')(hn:ai β n n'):
 ∃g,f'= .func (.func g) ⟨[]⟩ ⟨[]⟩∧∃ah v' w',(callFunc g #[n']).run P w= .ok (.value v') w'∧ai ah v v'∧Inv w0 E.G ah A' w'∧β.grow ah A.next∧A.next≤A'.next:=by
 unfold RY at h;split at h;rotate_left
 ·cases h
 rename_i g;split at h;rotate_left
 ·cases h
 rename_i t IE;split at h;rotate_left
 ·cases h
 rename_i e _ _ _ _ hr;replace h:=au h;rcases h with⟨_,h⟩|⟨_,h⟩;rotate_left
 ·cases h
 split at h;rotate_left
 ·cases h
 rename_i u0 A1 eA;split at h;rotate_left
 ·cases h
 rename_i u A2 cM1;split at h;rotate_left
 ·cases h
 rename_i A3 kn;cases h;obtain⟨nd,rt,cu0,ht,jj,ga,ig,rfl,rfl⟩:=p8 eA;have i1:=inv.pop (r:=rt) (fun x hx=>by rw[ht];exact xo _ hx);have hq:dt β.d nd:=ok.q _ _ (inv.eO nd (by rw[ht];exact xn));unfold dt at hq;rw[jj] at hq;obtain⟨ds,d,q1,q2,q3⟩:=hq;rw[ga] at q1;obtain⟨dl,ds1,rfl,e1,q7⟩:=jB q1;obtain⟨dc,zs,rfl,e2,e3⟩:=jB q7;have bN:BP 1 1 dl dc zs=some d:=q3;unfold BP at bN;split at bN;rotate_left
 ·cases bN
 rename_i ln cn;split at bN;rotate_left
 ·cases bN
 rename_i BK;obtain⟨gw,dX,kR⟩:=BK;have jk:=fY e1 hn;cases jk;unfold jI at kR;simp only [xf,decide_eq_true_iff,Nat.mul_one] at kR;obtain⟨Fp,uy,cu,ht2,cM7,cN2,sM,rfl,rfl⟩:=p8 cM1;have i2:=i1.pop (r:=uy) (fun x hx=>by rw[ht2];exact xo _ hx);have ry:dt β.d Fp:=ok.q _ _ (i1.eO Fp (by rw[ht2];exact xn));unfold dt at ry;rw[cM7] at ry;obtain⟨ds2,d2,p1,p2,p3⟩:=ry;rw[cN2] at p1;rw[sM] at p2;obtain⟨p4,p5⟩:=oq p2;cases p1;have p3':some (D.sl [])=some d2:=p3;cases p3';cases hf with
 |func _ _ p' _ q' hp hq h1 h2=>
  have pW:p'=[]:=xA hp.symm;have rz:q'=[]:=xA hq.symm;subst pW;subst rz;obtain⟨ps,cN6⟩:=ok.mz g t (Pg IE);obtain⟨cs,aJ,aK,_⟩:=Lib.run_makeNoZero (P:=P) w ps t e (ok.ti t _ hr).1 ln (by omega);have eV:=cN6 #[.int .i64 (.ofNat ln)] w;obtain⟨g1,g2⟩:=(i2.drew (w.drawn+1+1)).new (l:=⟨w.heap.size,0,1,cs.size⟩) ⟨.cells [],1,false,false,e⟩ (.cells cs e) rfl
   ⟨cs,e,(0,0),rfl,rfl,by simp,(fun i v hv=>by simp at hv),fun _=>rfl,(fun h=>by cases h),rfl,fun _=>rfl⟩
  unfold Dv at kn;simp only at kn;split at kn;rotate_left
  ·cases kn
  rename_i csx esx exx tyx gA;cases kn;have sY:(β.put ((A.pop rt).pop uy).next ⟨w.heap.size,0,1,cs.size⟩).o ((A.pop rt).pop uy).next=none:=by
   show β.o A.next=none;cases hq:β.o A.next with
   |none=>rfl
   |some v=>have:=inv.jf _ _ hq;omega
  have gj:∀(cK:af),cK.d=β.d→bP cK.d (.chan (some (cu+1)))=some (.sl []):=fun cK e=>by
   show(cK.d cu).bind _=_;rw[e,p4];rfl
  have yD:=g1.relabel (B:=((A.pop rt).pop uy).next) (blk':=⟨.own (.chan (some (cu+1))),1,false,false,e⟩) (v:= .slice (some ⟨w.heap.size,0,none⟩) 0 cs.size) gA (Nat.lt_succ_self _) sY rfl (fun l2 bG=>by
   rw[jl] at bG;cases bG;exact⟨cs,[],heap_alloc_new _ _,rfl,gj _ rfl,rfl,(fun row hr=>by cases hr),by simp,fun i row j d hi hj=>by simp at hi⟩)
   ⟨[],gj _ rfl,.inr ⟨_,cs.size,jl _ _ _,by show(if((A.pop rt).pop uy).next=((A.pop rt).pop uy).next then _ else _)=_;rw[if_pos rfl];rfl,xL _,by show 0+cs.size*1≤cs.size;omega,rfl⟩⟩
  refine⟨g,rfl,_,_,_,?_,ai.raw (β:=(β.put ((A.pop rt).pop uy).next ⟨w.heap.size,0,1,cs.size⟩).pG ((A.pop rt).pop uy).next (.slice (some ⟨w.heap.size,0,none⟩) 0 cs.size)) ((A.pop rt).pop uy).next ln cs.size ⟨w.heap.size,0,1,cs.size⟩ (jl _ _ _) aK (by show(if((A.pop rt).pop uy).next=((A.pop rt).pop uy).next then _ else _)=_;rw[if_pos rfl]),yD,af.iZ g2 (af.Jo _ _ _) (xk _),Nat.le_succ _⟩;rw[eV];have di0:(Extern.BytealgMakeNoZero.makeNoZero ps #[t] #[.int .i64 (Int.ofNat ln)]).run P w= .ok (.slice (some ⟨w.heap.size,0,none⟩) ln cs.size) (w.drew.drew.alloc (.cells cs e)):=aJ;simp[aJ];rfl
include ok in
theorem aK5{w0 w:World}{A A':AW}{β:af}{n:Nat}{g:Gt}{a:Act}(hf:cf β n g a.tmps){t:xN}{x:Operand}{lo hi:Option Operand}{u:xM}(h:Qx E A t (ev E g x) (sV E g lo) (uJ E g hi)=some (u,A'))(inv:Inv w0 E.G β A w):
 ∃v',(Instr.sliceAt t (a.eval x) (lo.map a.eval) (hi.map a.eval) none).run P w= .ok v' w∧ai β u v'∧Inv w0 E.G β A' w∧A.next≤A'.next:=by
 unfold Qx at h;split at h;rotate_left
 ·cases h
 rename_i len e _ _ _ _ B o nd r hr hx im ht;split at h;rotate_left
 ·cases h
 rename_i z hs;replace h:=au h;rcases h with⟨hb,h⟩|⟨_,h⟩;rotate_left
 ·cases h
 cases h;simp only [xf] at hb;obtain⟨⟨⟨⟨b0,b1⟩,b2⟩,b3⟩,b4⟩:=hb;have Ut:=xb b0;subst Ut;have e1:=y8 b2;have e2:=kV _ _ b3;have e3:=wm b4;obtain⟨cl,vW⟩:=Jq b1;unfold jn at hs;split at hs;rotate_left
 ·cases hs
 rename_i r2 bK;have aT:r2.size=1:=xC hs;have hu:=(ok.ti t _ hr).1;have hq:dt β.d nd:=ok.q _ _ (inv.eO nd (by rw[ht];exact xn));unfold dt at hq;rw[e1] at hq;obtain⟨ds,d,q1,q2,q3⟩:=hq;rw[e2] at q1;rw[e3] at q2;have vL:some (D.bool true)=some d:=q2;cases vL;obtain⟨dx,di,rfl,e5,e6⟩:=om q1;have FT:some (D.int .i64 (Int.ofNat len))=some dx:=e5;cases FT;obtain⟨k,m,rfl,hm⟩:=Ov q3;have e7:bP β.d (sV E g lo)=some (.int k (.ofNat m)):=by rw[vW] at e6⊢;exact e6
 have hv:=jX (a:=a) inv hf x;rw[hx] at hv;generalize gA:a.eval x=xv at hv;have cO1:lo.map a.eval=some (.int k (.ofNat m))∨(lo.map a.eval=none∧m=0):=by
  cases lo with
  |none=>cases vW
  |some y=>
   have hy:=jX (a:=a) inv hf y;have hy2:=fY (v:=ev E g y) e6 hy;left;show some (a.eval y)=_;generalize a.eval y=yv at hy2;cases hy2;rfl
 have Cc:((none:Option Nat)=none∧hi.map a.eval=none)∨∃k',(none:Option Nat)=some len∧hi.map a.eval=some (.int k' (.ofNat len)):=by
  cases hi with
  |none=>exact .inl ⟨rfl,rfl⟩
  |some y=>cases im
 cases hv with
 |ptr _ _ l hl=>
  obtain⟨m',aJ,rB,eV⟩:=Ip (P:=P) (len:=len) (cap:=len) (a:=m) (b:=len) (Nat.le_of_lt hm) (xk _) (xk _) (hb:=none) rfl cO1 Cc false w;have hm3:m'=len:=Nat.le_antisymm eV rB;subst hm3;refine⟨.slice (some ⟨l.b,l.d+o+m,none⟩) (m' - m) (m' - m),?_,.part B o m' m l _ k hl e7 (Nat.le_of_lt hm),inv.pop (fun x hx=>by rw[ht];exact xo _ hx),xk _⟩;have bA: ¬m'=m:=by omega
  have Sr:r2.size=1:=aT;simp[Instr.sliceAt,run_underlying hu,Instr.sureAddr,aJ,dC ok bK,Sr,bA,Addr.add_lit]
include ok in
theorem bc5{w0 w:World}{A A':AW}{β:af}{n:Nat}{g:Gt}{a:Act}(hf:cf β n g a.tmps){t:xN}{x:Operand}{lo hi:Option Operand}{u:xM}(h:PP E A t (ev E g x) (sV E g lo) (uJ E g hi)=some (u,A'))(inv:Inv w0 E.G β A w):
 ∃ah v',(Instr.sliceAt t (a.eval x) (lo.map a.eval) (hi.map a.eval) none).run P w= .ok v' w∧ai ah u v'∧Inv w0 E.G ah A' w∧β.grow ah A.next∧A.next≤A'.next:=by
 unfold PP at h;split at h
 ·rename_i h1;cases h;exact aO3 ok hf h1 inv
 ·obtain⟨v',h1,h2,h3,h4⟩:=aK5 ok hf h inv;exact⟨β,v',h1,h2,h3,af.cq _ _,h4⟩
theorem VP(ft:Nat){z:Nat→Option (Array xM)}{rows:List (List D)}{x':xM}(h:Rd z (.sl rows) x')(c:Nat)(hc:c≤rows.length):
 (∀w,(Builtin.lenOf x').run P w= .ok rows.length w)∧∃x2,Rd z (.sl (rows.take c)) x2∧Builtin.firstCells ft c x'=Builtin.firstCells ft c x2:=by
 cases h with
 |sT=>exact⟨fun _=>rfl,_,by simpa using Rd.sT,rfl⟩
 |n8 a cp=>exact⟨fun _=>rfl,_,by simpa using Rd.n8 a cp,rfl⟩
 |sl _ es b o cp cells hz bA cz rf hs hh=>
  refine⟨fun _=>rfl,.slice (some ⟨b,o,none⟩) (rows.take c).length cp,?_,rfl⟩;by_cases h0:rows.take c=[]
  ·rw[h0];exact .n8 _ _
  ·refine .sl _ es b o cp cells hz h0 (fun row hr=>cz row (List.mem_of_mem_take hr)) (by rw[xz];omega) hs fun i row j d v h1 h2 h3=> ?_
   rw[List.getElem?_take] at h1;split at h1
   ·exact hh i row j d v h1 h2 h3
   ·cases h1
theorem Inv.bm6{w0 w:World}{G:GP}{β:af}{A:AW}(h:Inv w0 G β A w){B:Nat}{aj blk':ao}(hk:A.get B=some aj)(hG:G.n≤B)(fB:∀l,β B=some l→gH β l blk' w.heap[l.b]?)(jJ:je β B blk')(hs:aj.still=false):Inv w0 G β (A.put B (some blk')) w:=by
 cases hl:β B with
 |none=>exact h.KD hk hl jJ
 |some l=>exact h.Gv B l aj blk' hk hl hG (World.grownBy.refl _ _) rfl (fB l hl) jJ (fun cs hz=>h.bB _ _ hz) (fun _=>h.sep B l _ hG hl hk hs)
include ok in
theorem aR2{w0 w:World}{A:AW}{β:af}{t tx ty e:xN}{z B:Nat}{c0:Nat}{d' x x' u c cn y:xM}{A1:AW}{es:Nat}{ex:Bool}{tb:xN}{nd:Node}{r:List Node}{a1 a2 a3 a4}(hr:E.ti.get none t=some ⟨.slice e,a1,a2,a3,a4⟩)(hs:jn E e=some z)(jz:ng E.G.n 4 x A=some (u,A1))(hg:A1.get B=some ⟨.own c,es,ex,false,tb⟩)(ht:A1.tape=nd::r)(ig:nd.res= .agg ⟨[cn,y]⟩)
 (b1:z=es) (b2:1≤z) (b3:Bt E tx=true) (b4:nd.k= .qn z) (b5:nd.args=[c,u]) (b6:gF cn=true) (b7:gF y=true) (b8:E.G.n≤B) (inv:Inv w0 E.G β A w) (hd:ai β (.iface B (.chan (some (c0+1)))) d') (hx:ai β x x'):
 hO w0 E.G β A ((Builtin.copy_ #[t,tx] ty #[d',x']).run P w) cn ((A1.pop r).put B (some ⟨.own y,es,ex,false,tb⟩))∧A.next≤((A1.pop r).put B (some ⟨.own y,es,ex,false,tb⟩)).next:=by
 subst b1;have hu:=(ok.ti t _ hr).1;unfold jn at hs;split at hs;rotate_left
 ·cases hs
 rename_i re dG;have Nj:re.size=z:=xC hs;have uC:(∃e',P.underlying tx=some (.slice e'))∨P.underlying tx=some .string:=by
  unfold Bt at b3;split at b3
  ·rename_i hr;exact .inl ⟨_,(ok.ti tx _ hr).1⟩
  ·rename_i hr;exact .inr (ok.ti tx _ hr).1
  ·cases b3
 obtain⟨aI,i1,g1,n1,f1⟩:=wH ok (w0:=w0) (w:=w) 4 x A u A1 β jz inv;have aK:=inv.fX g1;have hq:dt aI.d nd:=ok.q _ _ (i1.eO nd (by rw[ht];exact xn));unfold dt at hq;rw[b4] at hq;obtain⟨ds,dd,q1,q2,q3⟩:=hq;rw[b5] at q1;rw[ig] at q2;have i2:=i1.pop (r:=r) (fun x hx=>by rw[ht];exact xo _ hx);have gB:(A1.pop r).get B=some ⟨.own c,z,ex,false,tb⟩:=hg;obtain⟨dc,dx,rfl,e1,e2⟩:=om q1;obtain⟨rows,h1,h2⟩:=i2.own B _ gB;rw[zh h1] at e1;cases e1;have ez:=fY e2 (f1 aI (af.cq _ _) x' (hx.mono aK));have bN:Py z (.sl rows) dx=some dd:=q3;unfold Py at bN;split at bN;rotate_left
 ·cases bN
 rename_i KJ src iJ;cases iJ;split at bN;rotate_left
 ·cases bN
 rename_i eT;cases bN;obtain⟨dl0,SK,SJ⟩:=xp.1 (show(aX (gi aI.d) [cn,y]).map D.agg=_ from q2);cases SJ;obtain⟨dcn,DL,zU,r1,r2⟩:=jB SK;obtain⟨rfl,rfl⟩:=List.cons.inj zU;obtain⟨dy,IS,r3⟩:=nF r2;cases IS;obtain⟨cy,rfl⟩:=Jq b7;obtain⟨r4,r5⟩:=oq (show jq aI.d (.chan (some (cy+1)))=_ from r3);generalize Cg:min rows.length src.length=c8 at*;have s7:c8≤src.length:=by omega
 have bQ:c8≤rows.length:=by omega
 obtain⟨aC,x2,oa,yE⟩:=VP (P:=P) z ez c8 s7;have BL:(src.take c8).all (fun r=>r.length==z&&r.all D.cell)=true:=by
  rw[List.all_eq_true] at eT⊢;exact fun row hr=>eT row (List.mem_of_mem_take hr)
 obtain⟨cells,ra,fp,P3⟩:=PM (P:=P) i2.bB (es:=z) uC b2 (d:= .sl (src.take c8)) (rows:=src.take c8) (show(if(src.take c8).all (fun r=>r.length==z&&r.all D.cell)=true then some (src.take c8) else none)=_ by rw[if_pos BL]) oa;have sX:(src.take c8).length=c8:=by rw[xz];omega
 rw[sX] at fp;have ov:=ra.cells;rw[sX,yE.symm] at ov;have gj:bP aI.d (.chan (some (cy+1)))=some (.sl (src.take c8++rows.drop c8)):=by
  show(aI.d cy).bind _=_;rw[r4];rfl
 have ru:(src.take c8++rows.drop c8).length=rows.length:=by
  rw[xa,sX,List.length_drop];omega
 have ye:Nat.min rows.length src.length=c8:=Cg;have av2:ai aI cn (.int .i64 (c8:Nat)):=C7 r1 (.int _ _);have iK:A.next≤((A1.pop r).put B (some ⟨.own (.chan (some (cy+1))),z,ex,false,tb⟩)).next:=by show A.next≤A1.next;rw[n1];exact xk _
 have qC:=hd.mono aK;cases qC with
 |own _ _ Bu a cap fE ha io=>
  rcases h2 with⟨iJ,ho⟩|⟨l,aE6,hl,ho,p1,p2,p3⟩
  ·rw[ho] at fE;have rA:=xC fE;injection rA with s1 s2 s3;subst s1;subst s3;rw[←s2];have Ua:c8=0:=by rw[iJ] at bQ;simpa using bQ
   subst Ua;have Nv:cells=[]:=xA (by rw[fp];simp);rw[Nv] at ov;have bV:=i2.bm6 (blk':=⟨.own (.chan (some (cy+1))),z,ex,false,tb⟩) gB b8 (fun l hl=>by
    obtain⟨av,zn,k1,k2,k3,k4,k5,k6,k7⟩:=i2.cont B _ l gB hl;refine⟨av,[],k1,k2,by rw[gj,iJ];rfl,k4,(fun row hr=>by cases hr),by simp;omega,fun i row j d hi=>by simp at hi⟩) ⟨_,gj,.inl ⟨by rw[iJ];rfl,ho⟩⟩ rfl
   refine⟨⟨aI,.int .i64 (0:Nat),w,?_,av2,bV,g1⟩,iK⟩;have qy:∀w,(Builtin.lenOf (.slice none 0 0)).run P w= .ok 0 w:=fun _=>rfl
   simp[Builtin.copy_,run_underlying hu,aC,qy,dC ok dG,Nj,ov,goInt]
  ·rw[ho] at fE;have rA:=xC fE;injection rA with s1 s2 s3;subst s1;subst s3;rw[←s2];obtain⟨av,zn,k1,k2,k3,k4,k5,k6,k7⟩:=i2.cont B _ l gB hl;have yx:(D.sl rows)= .sl zn:=xC (h1.symm.trans k3);cases yx;have iU:l.es=z:=k4;rw[iU] at k5 k6 k7;have Cb:c8*z≤rows.length*z:=xD _ bQ;have pO:l.d+cells.length≤av.size:=by rw[fp,k2];omega
   have aQ:=run_storeCells_at (P:=P) l.b l.d tb cells 0 av w k1 (by omega) ra.one;rw[Nat.add_zero] at aQ;have H3:∀sC∈src.take c8++rows.drop c8,sC.length=z:=fun sC dY=>by
    rcases xF.1 dY with h9|h9
    ·have:=(List.all_eq_true.1 BL) sC h9;simp only [xf,beq_iff_eq] at this;exact this.1
    ·exact k5 sC (List.mem_of_mem_drop h9)
   have hw:=i2.write (w':=w.setRow l.b (av.toList.take l.d++cells++av.toList.drop (l.d+cells.length)).toArray) B l _ ⟨.own (.chan (some (cy+1))),z,ex,false,tb⟩ gB hl b8 (F2 w l.b _) (by simp) (by
    rw[setRow_heap w l.b av _ tb (0,0) k1];refine⟨_,_,rfl,by rw[F3 _ _ _ pO];exact k2,gj,iU,(fun sC dY=>by rw[iU];exact H3 sC dY),by rw[iU,ru];exact k6,fun i sU j d hi hj=> ?_⟩;rw[iU];rw[y5 _ _ _ pO];have hje:j<z:=by rw[←H3 sU (xu hi)];exact(xe.1 hj).1
    by_cases hic:i<c8
    ·rw[xw (by rw[sX];exact hic)] at hi;have:(i+1)*z≤c8*z:=xD _ hic;rw[Nat.add_mul] at this;rw[if_pos (by omega),show l.d+(i*z+j) - l.d=i*z+j by omega];exact P3 i sU j d hi hj
    ·rw[xq (by rw[sX];omega),sX,List.getElem?_drop,show c8+(i - c8)=i by omega] at hi;have:c8*z≤i*z:=xD _ (by omega);rw[if_neg (by omega)];exact k7 i sU j d hi hj) ⟨_,gj,.inr ⟨l,_,hl,by rw[ru];exact ho,by rw[ru];exact p1,p2,p3⟩⟩
   refine⟨⟨aI,.int .i64 (c8:Nat),_,?_,av2,hw,g1⟩,iK⟩;have bS8:Nat.min src.length rows.length=c8:=by rw[←Cg];exact Nat.min_comm _ _
   simp[Builtin.copy_,run_underlying hu,aC,bS8,dC ok dG,Nj,ov,goInt,aQ]
include ok in
theorem aZ0{w0 w:World}{A A':AW}{β:af}{t tx ty:xN}{d d' x x' v:xM}(h:Rr E A t tx d x=some (v,A'))(inv:Inv w0 E.G β A w)(hd:ai β d d')(hx:ai β x x'):hO w0 E.G β A ((Builtin.copy_ #[t,tx] ty #[d',x']).run P w) v A'∧A.next≤A'.next:=by
 unfold Rr at h;split at h
 ·rename_i B c e _ _ _ _ hr;split at h;rotate_left
  ·rename_i z hs _;split at h;rotate_left
   ·cases h
   rename_i u A1 jz;split at h;rotate_left
   ·cases h
   rename_i c1 es ex tb nd r hg ht;split at h;rotate_left
   ·cases h
   rename_i cn y ig;rcases au h with⟨hb,h⟩|⟨_,h⟩;rotate_left
   ·cases h
   cases h;simp only [xf] at hb;obtain⟨⟨⟨⟨⟨⟨⟨b1,b2⟩,b3⟩,b4⟩,b5⟩,b6⟩,b7⟩,b8⟩:=hb;exact aR2 ok hr hs jz hg ht ig (xb b1) (xh b2) b3 (y8 b4) (kV _ _ b5) b6 b7 (xh b8) inv hd hx
  ·cases h
  rename_i z hs;cases h;cases hx;have hu:=(ok.ti t _ hr).1;unfold jn at hs;split at hs<;>cases hs
  rename_i re dG;cases hd with
  |own _ _ rows a cap ho ha hd=>
   refine⟨⟨β,.int .i64 0,w,?_,.int _ _,inv,af.cq _ _⟩,xk _⟩;cases a with
   |none=>simp[Builtin.copy_,run_underlying hu,Builtin.lenOf,dC ok dG,Builtin.firstCells,goInt]
   |some a=>simp[Builtin.copy_,run_underlying hu,Builtin.lenOf,dC ok dG,Builtin.firstCells,goInt,storeCells]
 rotate_left
 ·cases h
 rename_i B iv off n e _ _ _ _ hr;split at h;rotate_left
 ·cases h
 rename_i z cs es ex An nd r hs hg ht;split at h;rotate_left
 ·cases h
 rename_i eu cn dw qx ig;replace h:=au h;rcases h with⟨hb,h⟩|⟨_,h⟩;rotate_left
 ·cases h
 cases h;simp only [xf,dA] at hb;obtain⟨⟨⟨⟨⟨⟨⟨b0,b1⟩,b2⟩,b3⟩,b4⟩,b5⟩,b6⟩,b7⟩:=hb;have Ut:=xb b0;subst Ut;have Us:=y8 b3;have b4':=kV _ _ b4;have F0:=xb b5;have b6':=nI gF _ b6;have b7':=xh b7;have hu:=(ok.ti t _ hr).1;unfold jn at hs;split at hs;rotate_left
 ·cases hs
 rename_i re dG;have ZP:re.size=1:=xC hs;have uC:(∃e',P.underlying tx=some (.slice e'))∨P.underlying tx=some .string:=by
  unfold Bt at b2;split at b2
  ·rename_i hr;exact .inl ⟨_,(ok.ti tx _ hr).1⟩
  ·rename_i hr;exact .inr (ok.ti tx _ hr).1
  ·cases b2
 have hq:dt β.d nd:=ok.q _ _ (inv.eO nd (by rw[ht];exact xn));unfold dt at hq;rw[Us] at hq;obtain⟨ds,dd,q1,q2,q3⟩:=hq;rw[b4'] at q1;rw[ig] at q2;obtain⟨di,ds1,rfl,e1,q4⟩:=jB q1;obtain⟨dx,NI,rfl,e2,e3⟩:=jB q4;have i2:=inv.pop (r:=r) (fun x hx=>by rw[ht];exact xo _ hx);cases hd with
 |part _ _ _ m l _ k hl hi hm=>
  rw[zh hi] at e1;cases e1;have bN:Qd n (.int k (.ofNat m)) dx NI=some dd:=q3;unfold Qd at bN;split at bN;rotate_left
  ·cases bN
  rename_i k0 m0 rows jQ;injection jQ with _ kS;injection kS with kS;subst kS;split at bN;rotate_left
  ·cases bN
  rename_i BK;obtain⟨eT,No,jR⟩:=BK;cases bN;obtain⟨dl0,SK,SJ⟩:=xp.1 (show(aX (gi β.d) (v::dw)).map D.agg=_ from q2);cases SJ;obtain⟨dcn,DL,zU,r1,r2⟩:=jB SK;obtain⟨cP6,av5⟩:=List.cons.inj zU;subst cP6;have ez:=fY e2 hx;generalize Cg:min rows.length (n - m)=c8 at*;have s7:c8≤rows.length:=by omega
  obtain⟨aC,x2,oa,yE⟩:=VP (P:=P) 1 ez c8 s7;have BL:(rows.take c8).all (fun r=>r.length==1&&r.all D.cell)=true:=by
   rw[List.all_eq_true] at eT⊢;exact fun row hr=>eT row (List.mem_of_mem_take hr)
  have at3:∀row∈rows.take (n - m),row.length=1:=fun row hr=>by
   have:=(List.all_eq_true.1 eT) row (List.mem_of_mem_take hr);simp only [xf,beq_iff_eq] at this;exact this.1
  have oe:rows.take (n - m)=rows.take c8:=by
   rw[←Cg];rcases Nat.le_total rows.length (n - m) with h|h
   ·rw[List.take_of_length_le h,Nat.min_eq_left h,List.take_length]
   ·rw[Nat.min_eq_right h]
  rw[oe] at at3 av5;obtain⟨NG,Um⟩:=Rm at3;obtain⟨src,ra,fp,P3⟩:=PM (P:=P) inv.bB (es:=1) uC (xk _) (d:= .sl (rows.take c8)) (rows:=rows.take c8) (show(if(rows.take c8).all (fun r=>r.length==1&&r.all D.cell)=true then some (rows.take c8) else none)=_ by rw[if_pos BL]) oa;have sX:(rows.take c8).length=c8:=by rw[xz];omega
  rw[sX,Nat.mul_one] at fp;rw[sX] at NG;have ov:=ra.cells;rw[sX] at ov;obtain⟨av,e0,fz,k1,k2,k3,k4,k5,k6,k7⟩:=inv.cont B _ l hg hl;have jz:fz=(0,0):=k5 rfl;subst jz;obtain⟨pX,fE⟩:=C9 _ _ _ qx;rw[Db] at pX fE;rw[List.length_drop] at fE;have hcm:m+c8≤n:=by omega
  have kv:n=0∨off+n≤cs.length:=by omega
  have bS6:∀j,j<n→eu[j]? =cs[off+j]? :=fun j hj=>by
   rw[pX,List.getElem?_take,if_pos hj,List.getElem?_drop]
  let F:=(List.range n).map fun i=>if m≤i∧i<m+c8 then src.getD (i - m) undef else av.getD (l.d+off+i) undef
  have hF:∀i,i<n→F[i]? =some (if m≤i∧i<m+c8 then src.getD (i - m) undef else av.getD (l.d+off+i) undef):=fun i hi=>by
   show((List.range n).map _)[i]? =_;rw[xx,List.getElem?_range hi];rfl
  have IY:F.length=n:=by simp[F]
  have pM:∀i d,i<n→NI[i]? =some d→∃v,av[l.d+off+i]? =some v∧Rd β.z d v:=fun i d hi hd=>by
   have eI:i<eu.length:=by rw[pX,xz,List.length_drop];omega
   have o9:off+i<cs.length:=by omega
   obtain⟨v',h1,h2⟩:=k4 (off+i) _ (xc o9);refine⟨v',by rw[Nat.add_assoc];exact h1,fY (jU e3 hd (xc eI)) ?_⟩;have h4:=bS6 i hi;rw[xc eI,xc o9] at h4;rw[xC h4];exact h2
  have hDL:∀i d,i<n→DL[i]? =some d→∃v,F[i]? =some v∧Rd β.z d v:=fun i d hi hd=>by
   rw[hF i hi];have kx:(NI.take m++(rows.take c8).flatten++NI.drop (m+c8))[i]? =some d:=by
    rw[av5];exact hd
   refine⟨_,rfl,?_⟩;by_cases h1:i<m
   ·rw[if_neg (by omega)];rw[List.append_assoc,xw (by rw[xz];omega),List.getElem?_take,if_pos h1] at kx;obtain⟨v,h2,h3⟩:=pM i d hi kx;rw[Array.getD_eq_getD_getElem?,h2];exact h3
   ·by_cases h2:i<m+c8
    ·rw[if_pos ⟨by omega,h2⟩];rw[List.append_assoc,xq (by rw[xz];omega),xz,Nat.min_eq_left (by omega),xw (by rw[NG];omega)] at kx;obtain⟨row,h3,h4⟩:=Um _ _ kx;obtain⟨v,h5,h6⟩:=P3 _ row 0 d h3 h4;rw[Nat.mul_one,Nat.add_zero] at h5;rw[List.getD_eq_getElem?_getD,h5];exact h6
    ·rw[if_neg (by omega)];rw[xq (by rw[xa,NG,xz];omega),xa,NG,xz,Nat.min_eq_left (by omega),List.getElem?_drop,show m+c8+(i - (m+c8))=i by omega] at kx;obtain⟨v,h2,h3⟩:=pM i d hi kx;rw[Array.getD_eq_getD_getElem?,h2];exact h3
  have dk9:DL.length=n:=by rw[l6 r2,F0]
  have at1:∀i u,dw[i]? =some u→∃v,F[i]? =some v∧ai β u v∧v.oneCell'=true:=fun i u TM=>by
   have qA:=(xe.1 TM).1;rw[F0] at qA;have hdi:DL[i]? =some DL[i]:=xc (by omega);obtain⟨v,h1,h2⟩:=hDL i _ qA hdi;obtain⟨c,rfl⟩:=Jq (b6' u (xu TM));have h3:=jU r2 hdi TM;obtain⟨h4,h5⟩:=oq (show jq β.d (.chan (some (c+1)))=_ from h3);exact⟨v,h1,.sym c _ v h4 h5 h2,(Gh h2 h5).2⟩
  have ii:aP β dw F:=⟨by rw[F0,IY],fun i u v h1 h2=>by
   obtain⟨v',h3,h4,_⟩:=at1 i u h1;rw[h2] at h3;cases h3;exact h4⟩
  have sL:∀v∈F,v.oneCell'=true:=fun v hv=>by
   obtain⟨i,hi,rfl⟩:=List.getElem_of_mem hv;have eI:i<dw.length:=by rw[F0,←IY];exact hi
   obtain⟨v',h3,_,h5⟩:=at1 i _ (xc eI);rw[xc hi] at h3;cases h3;exact h5
  rcases xI n with oh|oh
  ·
   have Ua:c8=0:=by omega
   have bS7:dw=[]:=xA (by rw[F0,oh]);have bR8:src=[]:=xA (by rw[fp,Ua]);have bV:Inv w0 E.G β ((A.pop r).put B (some ⟨.cells (jV dw off cs),es,ex,false,An⟩)) w:=by
    rw[bS7];refine i2.write B l _ _ (show(A.pop r).get B=_ from hg) hl b7' ⟨rfl,rfl,rfl,xk _,fun _ _ _=>rfl⟩ rfl ?_;rw[k1];exact⟨av,e0,(0,0),rfl,k2,k3,k4,fun _=>rfl,k6,k7⟩
   refine⟨⟨β,.int .i64 (c8:Nat),w,?_,C7 r1 (.int _ _),bV,af.cq _ _⟩,xk _⟩;rw[bR8] at ov;rw[yE.symm] at ov;have ye:Nat.min rows.length (n - m)=c8:=Cg;simp[Builtin.copy_,run_underlying hu,aC,ye,dC ok dG,ZP,ov,goInt,storeCells]
  ·have cM5:off+n≤cs.length:=by omega
   obtain⟨w',aJ,bV⟩:=Ga (P:=P) (E:=E) i2 (show(A.pop r).get B=_ from hg) b7' hl ii (by rw[F0];exact cM5) sL;have bS4:∀u∈src,u.oneCell'=true:=ra.one;have at2:=run_storeCells_at (P:=P) l.b (l.d+off) e0 F 0 av w k1 (by rw[IY];omega) sL;have sJ:=run_storeCells_at (P:=P) l.b (l.d+off+m) e0 src 0 av w k1 (by rw[fp];omega) bS4;rw[Nat.add_zero] at at2 sJ;have Rj:(av.toList.take (l.d+off)++F++av.toList.drop (l.d+off+F.length)).toArray=(av.toList.take (l.d+off+m)++src++av.toList.drop (l.d+off+m+src.length)).toArray:=by
    apply Array.ext_getElem?;intro i;rw[y5 _ _ _ (by rw[IY];omega),y5 _ _ _ (by rw[fp];omega),IY,fp];by_cases h1:l.d+off≤i∧i<l.d+off+n
    ·rw[if_pos h1,hF _ (by omega)];by_cases h2:l.d+off+m≤i∧i<l.d+off+m+c8
     ·rw[if_pos h2,if_pos (by omega)];rw[List.getD_eq_getElem?_getD];have:i - (l.d+off) - m=i - (l.d+off+m):=by omega
      rw[this];have bg:i - (l.d+off+m)<src.length:=by omega
      rw[xc bg];rfl
     ·rw[if_neg h2,if_neg (by omega),Array.getD_eq_getD_getElem?];have:l.d+off+(i - (l.d+off))=i:=by omega
      rw[this];have bg:i<av.size:=by omega
      rw[Array.getElem?_eq_getElem bg];rfl
    ·rw[if_neg h1,if_neg (by omega)]
   rw[at2] at aJ;rw[Rj] at aJ;rw[aJ] at sJ;refine⟨⟨β,.int .i64 (c8:Nat),w',?_,C7 r1 (.int _ _),bV,af.cq _ _⟩,xk _⟩;rw[yE.symm] at ov;have ye:Nat.min rows.length (n - m)=c8:=Cg;simp[Builtin.copy_,run_underlying hu,aC,ye,dC ok dG,ZP,ov,goInt,sJ]
end
inductive cT where
 |fn (f:FuncId)
 |rd (L:Nat)
 |dy (v:xM)
inductive R where
 |fail
 |val (v:xM) (A:AW)
 |call (f:cT) (args:List xM)
 |nd (l:List (xM×AW))
def dW(A:AW)(x:Option xM):R:=match x with|some v=> .val v A|none=> .fail
def dT(x:Option (xM×AW)):R:=match x with|some (v,A)=> .val v A|none=> .fail
def o4(x:Option AW):R:=match x with|some A=> .val undef A|none=> .fail
def Iu(x:Option (List (xM×AW))):R:=match x with|some l=> .nd l|none=> .fail
def LP(x:xM):Option xM:=
 match x with
 | .pointer (some a)=>some (.pointer (some a))
 | .func (.func f) p q=>some (.func (.func f) p q)
 | .map (some b)=>some (.map (some b))
 | .iface B (.agg l)=>some (.iface B (.agg l))
 |_=>none
def KM(c a b:xM):Option xM:=match c with| .bool t=>some (bs t a b)|_=>none
def Nb(l:List UInt8)(c:Nat):Int:=
 List.rec (motive:=fun _=>Int) (.negSucc 0) (fun b _ ih=>bs (Nat.beq b.toNat c) (.ofNat 0) (Int.rec (motive:=fun _=>Int) (fun n=> .ofNat (Nat.add n 1)) (fun n=> .negSucc n) ih)) l
theorem Xz(c:Nat)(hc:c<256):∀l:List UInt8,Nb l c=Lib.indexByte l c.toUInt8
 |[]=>rfl
 |b::l=>by
  have ih:=Xz c hc l;show bs (Nat.beq b.toNat c) (.ofNat 0) (Int.rec (motive:=fun _=>Int) (fun n=> .ofNat (Nat.add n 1)) (fun n=> .negSucc n) (Nb l c))=_;unfold Lib.indexByte;have hb:(b==c.toUInt8)=Nat.beq b.toNat c:=by
   rw[na,Bool.eq_iff_iff,beq_iff_eq,decide_eq_true_iff];constructor
   ·rintro rfl;simp[Nat.mod_eq_of_lt hc]
   ·intro h;apply UInt8.toNat.inj;simp[h,Nat.mod_eq_of_lt hc]
  rw[hb,ih];cases Nat.beq b.toNat c with
  |true=>rfl
  |false=>
   rw[gN,if_neg (by simp)];have ek:=Lib.indexByte_ge l c.toUInt8;cases hx:Lib.indexByte l c.toUInt8 with
   |ofNat n=>
    rw[if_neg (by simp)];rfl
   |negSucc n=>
    rw[hx] at ek;have:n=0:=by omega
    subst this;rfl
def neV(E:aq)(g:FuncId)(p args q:List xM):Option xM:=
 match p,args,q with
 |[],[x],[]=>bs (vM g E.ne) (some x) none
 |[],[.string ⟨⟨l⟩⟩,.int .u8 (.ofNat c)],[]=>bs (vM g E.ib&&Nat.blt c 256) (some (.int .i64 (Nb l c))) none
 |_,_,_=>none
def ap7(E:aq)(A:AW)(g:FuncId)(p args q:List xM):Option (xM×AW):=
 match p,args,q with
 |[],[.int .i64 (.ofNat n)],[]=>match M0 g E.mz with
  |some t=>match E.ti.get none t with
   |some ⟨.slice e,_,_,_,_⟩=>bs (Nat.ble n 281474976710656) (some (.slice (some ⟨A.next,0,none⟩) n n,A.add ⟨.cells (sE (fun _=>J) n []),1,false,false,e⟩)) none
   |_=>none
  |none=>none
 |_,_,_=>none
def zY(E:aq)(A:AW)(f:xM)(args:List xM):R:=
 match f with
 | .func (.func g) ⟨p⟩ ⟨q⟩=>match E.fn.get none g with
  |some ⟨_,_,_,_,_,_,_,_,some _,_,_,_,_,_,_,_⟩=> .call (.fn g) (aa (aa p args) q)
  |_=>match ap7 E A g p args q with
   |some r=> .val r.1 r.2
   |none=>dW A (neV E g p args q)
 | .func (.yield L) ⟨[]⟩ ⟨[]⟩=> .call (.rd L) args
 | .chan (some (c+1))=> .call (.dy (.chan (some (c+1)))) args
 |_=> .fail
def Eu(E:aq)(A:AW)(s d:xN)(x:xM):R:=
 match BQ E s d x with
 |some v=> .val v A
 |none=>match Qp E A s d x with
  |some v=> .val v A
  |none=>dT (DK E A s d x)
def Df(E:aq)(A:AW)(b:Builtin)(tys:List xN)(vs:List xM):R:=
 match b,tys,vs with
 | .len,[t],[x]=>dW A (R0 E A t x)
 | .append,[t,tx],[s,x]=>match Dl E A t tx s x with
  |some p=> .val p.1 p.2
  |none=>dT (G6 E A t tx s x)
 | .copy,[t,tx],[s,x]=>dT (HE E A t tx s x)
 | .clear,[t],[x]=>dT (G2 E A t x)
 | .cap,[t],[x]=>dW A (S2 E A t x)
 | .max,_,l=>dW A (EL true l)
 | .min,_,l=>dW A (EL false l)
 | .unsafeSliceData,_,[x]=>dW A (PR x)
 | .unsafeString,[t,_],[x,y]=>dT (G8 E A t x y)
 |_,_,_=> .fail
theorem Da{α γ:Type}{f:α→γ}{l:List α}{x:γ}(h:ew f l=[x]):∃a,l=[a]∧f a=x:=by
 rw[l8] at h
 match l,h with
 |[a],h=>exact⟨a,rfl,by simpa using h⟩
theorem Jz{α γ:Type}{f:α→γ}{l:List α}{x y:γ}(h:ew f l=[x,y]):∃a b,l=[a,b]∧f a=x∧f b=y:=by
 rw[l8] at h
 match l,h with
 |[a,b],h=>exact⟨a,b,rfl,by simpa using h⟩
def aF(E:aq)(sq:List (Nat×List xO))(A:AW)(fr:Gt)(op:Op):R:=
 match op with
 | .move x=> .val (ev E fr x) A
 | .assign x=> .val (ev E fr x) A
 | .pick c a b=>dW A (KM (ev E fr c) (ev E fr a) (ev E fr b))
 | .alloc t=>dT (zj E A t)
 | .box t x=>dT (Ah A t (ev E fr x))
 | .build t ⟨ps⟩=>dW A (Ky E t (ew (fun p=>(p.1,ev E fr p.2)) ps))
 | .buildSlice t len ⟨ps⟩=>dT (yS E A t len (ew (fun p=>(p.1,ev E fr p.2)) ps))
 | .load t a=>dW A (zq E A t (ev E fr a))
 | .store t a x=>o4 (zc E A t (ev E fr a) (ev E fr x))
 | .nilCheck x=>dW A (LP (ev E fr x))
 | .binOp op t x y _=>dW A (fm E sq op t (ev E fr x) (ev E fr y))
 | .unOp op _ x=>dW A (Co op (ev E fr x))
 | .convert s d x=>Eu E A s d (ev E fr x)
 | .makeFunc (.func f) ⟨p⟩ ⟨q⟩=> .val (.func (.func f) ⟨ew (ev E fr) p⟩ ⟨ew (ev E fr) q⟩) A
 | .makeSlice t l c=>dT (yT E A t (ev E fr l) (ev E fr c))
 | .slice t x lo hi mx=>dW A (Kc E A t (ev E fr x) (lo.map (ev E fr)) (hi.map (ev E fr)) (mx.map (ev E fr)))
 | .fieldAddr t x f=>dW A (Jl E t (ev E fr x) f)
 | .field t x f=>dW A (Kt E t (ev E fr x) f)
 | .indexAddr t x i=>dW A (Jk E t (ev E fr x) (ev E fr i))
 | .index t x i=>dW A (DF E t (ev E fr x) (ev E fr i))
 | .extract x i=>dW A (JG (ev E fr x) i)
 | .call ⟨.value f,⟨args⟩,_⟩=>zY E A (ev E fr f) (ew (ev E fr) args)
 | .call ⟨.builtin b,⟨args⟩,⟨tys⟩⟩=>Df E A b tys (ew (ev E fr) args)
 | .makeMap t r=>dT (DC E A t (r.map (ev E fr)))
 | .lookup t x k b=>dW A (JX E sq A t (ev E fr x) (ev E fr k) b)
 | .mapUpdate t m k x=>o4 (z4 E sq A t (ev E fr m) (ev E fr k) (ev E fr x))
 | .insert t m k x=>o4 (z4 E sq A t (ev E fr m) (ev E fr k) (ev E fr x))
 | .mapEntry t m k=>dT (DJ E sq A t (ev E fr m) (ev E fr k))
 | .entryStore _ m s x=>o4 (Dk E A (ev E fr m) (ev E fr s) (ev E fr x))
 | .range t x=>dT (Ds E A t (ev E fr x))
 | .next it false=>Iu (KP E A (ev E fr it))
 | .entry it=>dW A (Kj A (ev E fr it))
 |_=> .fail
def bQ2(E:aq)(A:AW)(fr:Gt)(f:Fn)(p q:List Operand):R:=
 match f with
 | .func f=> .val (.func (.func f) ⟨ew (ev E fr) p⟩ ⟨ew (ev E fr) q⟩) A
 |_=> .fail
def Ev(E:aq)(A:AW)(fr:Gt)(c:Call):R:=
 Call.rec (motive:=fun _=>aq→AW→Gt→R) (fun ce args tys E A fr=>Callee.rec (motive:=fun _=>List Operand→List xN→aq→AW→Gt→R)
  (fun f args _ E A fr=>zY E A (ev E fr f) (ew (ev E fr) args)) (fun _ _ _ _ _ _ _=> .fail) (fun b args tys E A fr=>Df E A b tys (ew (ev E fr) args)) ce args.toList tys.toList E A fr) c E A fr
def Fo(op:Op):aq→List (Nat×List xO)→AW→Gt→R:=
 Op.rec (motive:=fun _=>aq→List (Nat×List xO)→AW→Gt→R)
  (fun x E _ A fr=> .val (ev E fr x) A)
  (fun x E _ A fr=> .val (ev E fr x) A)
  (fun c a b E _ A fr=>dW A (KM (ev E fr c) (ev E fr a) (ev E fr b)))
  (fun t E _ A _=>dT (zj E A t))
  (fun t x E _ A fr=>dT (Ah A t (ev E fr x)))
  (fun t ps E _ A fr=>dW A (Ky E t (ew (fun p=>(p.1,ev E fr p.2)) ps.toList)))
  (fun t len ps E _ A fr=>dT (yS E A t len (ew (fun p=>(p.1,ev E fr p.2)) ps.toList)))
  (fun t m k x E sq A fr=>o4 (z4 E sq A t (ev E fr m) (ev E fr k) (ev E fr x)))
  (fun t a E _ A fr=>dW A (QF E A t (ev E fr a)))
  (fun t a x E _ A fr=>o4 (zc E A t (ev E fr a) (ev E fr x)))
  (fun _ _ _ _ _=> .fail)
  (fun _ _ _ _ _=> .fail)
  (fun x E _ A fr=>dW A (LP (ev E fr x)))
  (fun op t x y _ E sq A fr=>dW A (S4 E sq op t (ev E fr x) (ev E fr y)))
  (fun op _ x E _ A fr=>dW A (Co op (ev E fr x)))
  (fun s d x E _ A fr=>Eu E A s d (ev E fr x))
  (fun _ _ _ _ _ _=> .fail)
  (fun _ _ _ _ _ _=> .fail)
  (fun f p q E _ A fr=>bQ2 E A fr f p.toList q.toList)
  (fun t r E _ A fr=>dT (DC E A t (r.map (ev E fr))))
  (fun _ _ _ _ _ _=> .fail)
  (fun t l c E _ A fr=>dT (yT E A t (ev E fr l) (ev E fr c)))
  (fun t x lo hi mx E _ A fr=>dW A (Kc E A t (ev E fr x) (lo.map (ev E fr)) (hi.map (ev E fr)) (mx.map (ev E fr))))
  (fun t x f E _ A fr=>dW A (Jl E t (ev E fr x) f))
  (fun t x f E _ A fr=>dW A (Kt E t (ev E fr x) f))
  (fun t x i E _ A fr=>dW A (Jk E t (ev E fr x) (ev E fr i)))
  (fun t x i E _ A fr=>dW A (DF E t (ev E fr x) (ev E fr i)))
  (fun t x k b E sq A fr=>dW A (JX E sq A t (ev E fr x) (ev E fr k) b))
  (fun t m k x E sq A fr=>o4 (z4 E sq A t (ev E fr m) (ev E fr k) (ev E fr x)))
  (fun t m k E sq A fr=>dT (DJ E sq A t (ev E fr m) (ev E fr k)))
  (fun _ m s x E _ A fr=>o4 (Dk E A (ev E fr m) (ev E fr s) (ev E fr x)))
  (fun t x E _ A fr=>dT (Ds E A t (ev E fr x)))
  (fun it b E _ A fr=>bs b .fail (Iu (KP E A (ev E fr it))))
  (fun it E _ A fr=>dW A (Kj A (ev E fr it)))
  (fun _ _ _ _ _ _ _ _=> .fail)
  (fun x i E _ A fr=>dW A (JG (ev E fr x) i))
  (fun c E _ A fr=>Ev E A fr c)
  (fun _ _ _ _ _=> .fail)
  (fun _ _ _ _ _=> .fail)
  (fun _ _ _ _ _=> .fail)
  (fun _ _ _ _ _ _=> .fail)
  (fun _ _ _ _ _ _ _=> .fail)
  (fun _ _ _ _ _ _=> .fail) op
theorem GL(op:Op)(E:aq)(sq:List (Nat×List xO))(A:AW)(fr:Gt):Fo op E sq A fr=aF E sq A fr op:=by
 cases op with
 |build t ps=>obtain⟨ps⟩:=ps;rfl
 |buildSlice t len ps=>obtain⟨ps⟩:=ps;rfl
 |load t a=>show dW A (QF E A t (ev E fr a))=_;rw[aW6];rfl
 |binOp op t x y ty=>show dW A (S4 E sq op t (ev E fr x) (ev E fr y))=_;rw[bh5];rfl
 |makeFunc f p q=>obtain⟨p⟩:=p;obtain⟨q⟩:=q;cases f<;>rfl
 |next it b=>cases b<;>rfl
 |call c=>
  obtain⟨ce,⟨args⟩,⟨tys⟩⟩:=c;cases ce<;>rfl
 |_=>rfl
section
variable{P:Program}{E:aq}(ok:E.Ok P){sq:List (Nat×List xO)}(ba:E.Seq P sq){w0 w:World}{β:af}{A:AW}(inv:Inv w0 E.G β A w)
def Bp(P:Program)(w0:World)(G:GP)(β:af)(A:AW)(w:World)(s:Sem Next)(v:xM)(A':AW):Prop:=
 ∃ah v' w',(s.run P w= .ok (.value v') w'∨(s.run P w= .ok .skip w'∧v'=undef))∧ai ah v v'∧Inv w0 G ah A' w'∧β.grow ah A.next∧A.next≤A'.next
theorem uX{x:Option xM}{v:xM}{A':AW}(h:dW A x= .val v A'):x=some v∧A'=A:=by
 unfold dW at h;split at h<;>cases h
 exact⟨rfl,rfl⟩
theorem mZ{x:Option (xM×AW)}{v:xM}{A':AW}(h:dT x= .val v A'):x=some (v,A'):=by
 unfold dT at h;split at h<;>cases h
 rfl
theorem Bc{x:Option AW}{v:xM}{A':AW}(h:o4 x= .val v A'):x=some A'∧v=undef:=by
 unfold o4 at h;split at h<;>cases h
 exact⟨rfl,rfl⟩
include inv in
theorem nJ{s:Sem xM}{x:Option xM}{v:xM}{A':AW}(h:dW A x= .val v A')(hs:x=some v→∃v',s.run P w= .ok v' w∧ai β v v'):Bp P w0 E.G β A w (do pure (.value (←s))) v A':=by
 obtain⟨h1,rfl⟩:=uX h;obtain⟨v',hr,hv⟩:=hs h1;exact⟨β,v',w,.inl (by simp[hr]),hv,inv,af.cq _ _,xk _⟩
theorem qI{s:Sem xM}{x:Option (xM×AW)}{v:xM}{A':AW}(h:dT x= .val v A')(hn:x=some (v,A')→A.next≤A'.next)(hs:x=some (v,A')→hO w0 E.G β A (s.run P w) v A'):Bp P w0 E.G β A w (do pure (.value (←s))) v A':=by
 have h1:=mZ h;obtain⟨ah,v',w',hr,hv,hi,hg⟩:=hs h1;exact⟨ah,v',w',.inl (by simp[hr]),hv,hi,hg,hn h1⟩
theorem JI{n:Nat}{fr:Gt}{a:Act}(hf:cf β n fr a.tmps)(inv:Inv w0 E.G β A w):∀(ps:List (Nat×Operand)),E' β (ew (fun p=>(p.1,ev E fr p.2)) ps) (ps.map fun p=>(p.1,a.eval p.2))
 |[]=>trivial
 |p::ps=>⟨rfl,jX inv hf p.2,JI hf inv ps⟩
theorem y3{n:Nat}{fr:Gt}{a:Act}(hf:cf β n fr a.tmps)(inv:Inv w0 E.G β A w):∀(ps:List Operand),aP β (ew (ev E fr) ps) (ps.map a.eval)
 |[]=>aP.nil β
 |p::ps=>(y3 hf inv ps).cons (jX inv hf p)
theorem JJ{n:Nat}{fr:Gt}{a:Act}(hf:cf β n fr a.tmps)(inv:Inv w0 E.G β A w)(x:Option Operand):nh β (x.map (ev E fr)) (x.map a.eval):=by
 cases x with
 |none=>trivial
 |some x=>exact jX inv hf x
theorem bd5{c c' a a' b b' v:xM}(h:KM c a b=some v)(hc:ai β c c')(ha:ai β a a')(hb:ai β b b')(w:World):∃t,c'= .bool t∧ai β v (if t then a' else b'):=by
 unfold KM at h;split at h
 ·rename_i t;cases h;cases hc;refine⟨t,rfl,?_⟩;cases t
  ·exact hb
  ·exact ha
 ·cases h
theorem aJ8{t:xN}{v:xM}{A':AW}(h:zj E A t=some (v,A')):A.next≤A'.next:=by
 unfold zj at h;split at h
 ·replace h:=au h;rcases h with⟨_,h⟩|⟨_,h⟩<;>cases h
  exact Nat.le_succ _
 ·cases h
theorem aS0{t:xN}{x v:xM}{A':AW}(h:Ah A t x=some (v,A')):A.next≤A'.next:=by
 unfold Ah at h;split at h<;>cases h
 exact Nat.le_succ _
theorem aF2{t:xN}{n:Nat}{ps:List (Nat×xM)}{v:xM}{A':AW}(h:yS E A t n ps=some (v,A')):A.next≤A'.next:=by
 unfold yS at h;split at h
 ·split at h
  ·replace h:=au h;rcases h with⟨_,h⟩|⟨_,h⟩
   ·split at h<;>cases h
    exact Nat.le_succ _
   ·cases h
  ·cases h
 ·cases h
theorem aF5{t:xN}{l c v:xM}{A':AW}(h:yT E A t l c=some (v,A')):A.next≤A'.next:=by
 unfold yT at h;split at h
 ·split at h
  ·replace h:=au h;rcases h with⟨_,h⟩|⟨_,h⟩<;>cases h
   exact Nat.le_succ _
  ·cases h
 ·cases h
theorem aH9{t:xN}{a x:xM}{A':AW}(h:zc E A t a x=some A'):A.next≤A'.next:=by
 unfold zc at h;split at h
 ·split at h
  ·replace h:=au h;rcases h with⟨_,h⟩|⟨_,h⟩<;>cases h
   exact xk _
  ·cases h
 ·cases h
theorem aH7{t tx:xN}{s x v:xM}{A':AW}(h:Dl E A t tx s x=some (v,A')):A.next≤A'.next:=by
 unfold Dl at h;split at h
 ·cases h
 split at h
 ·cases h
 split at h
 ·replace h:=au h;rcases h with⟨_,h⟩|⟨_,h⟩
  ·cases h;exact xk _
  ·replace h:=au h;rcases h with⟨_,h⟩|⟨_,h⟩<;>cases h
   exact Nat.le_succ _
 ·replace h:=au h;rcases h with⟨_,h⟩|⟨_,h⟩
  ·cases h;exact xk _
  ·replace h:=au h;rcases h with⟨_,h⟩|⟨_,h⟩
   ·cases h
   ·split at h
    ·replace h:=au h;rcases h with⟨_,h⟩|⟨_,h⟩
     ·replace h:=au h;rcases h with⟨_,h⟩|⟨_,h⟩
      ·replace h:=au h;rcases h with⟨_,h⟩|⟨_,h⟩<;>cases h
       exact xk _
      ·split at h
       ·replace h:=au h;rcases h with⟨_,h⟩|⟨_,h⟩
        ·replace h:=au h;rcases h with⟨_,h⟩|⟨_,h⟩
         ·cases h;exact Nat.le_succ _
         ·replace h:=au h;rcases h with⟨_,h⟩|⟨_,h⟩<;>cases h
          exact Nat.le_succ _
        ·cases h
       ·cases h
     ·cases h
    ·cases h
 ·cases h
include ok ba inv in
theorem Qy{n:Nat}{fr:Gt}{a:Act}(hf:cf β n fr a.tmps){o:Oper}{v:xM}{A':AW}(h:aF E sq A fr o.op= .val v A'):Bp P w0 E.G β A w (execOp a.eval o) v A':=by
 obtain⟨dst,op,type,uz,after,guard⟩:=o;have E1:=jX (a:=a) inv hf;unfold aF at h;simp only at h;split at h
 ·cases h;exact⟨β,_,w,.inl rfl,E1 _,inv,af.cq _ _,xk _⟩
 ·cases h;exact⟨β,_,w,.inl rfl,E1 _,inv,af.cq _ _,xk _⟩
 ·rename_i c x y;obtain⟨h1,rfl⟩:=uX h;obtain⟨t,ht,hv⟩:=bd5 h1 (E1 c) (E1 x) (E1 y) w;exact⟨β,_,w,.inl (by simp[execOp,ht,asBool]),hv,inv,af.cq _ _,xk _⟩
 ·exact qI h aJ8 (fun e=>ba9 ok inv e)
 ·rename_i t x;exact qI h aS0 (fun e=>bB6 inv e (E1 x))
 ·rename_i t ps;have:=nJ (P:=P) (s:=Instr.build t (Array.map (fun(p:Nat×Operand)=>(p.1,a.eval p.2)) ⟨ps⟩)) inv h (fun e=>by
   have:=OW ok e (JI hf inv ps) w;simpa using this)
  exact this
 ·rename_i t len ps;have:=qI (P:=P) (w:=w) (β:=β) (A:=A) (E:=E) (w0:=w0) (s:=Instr.buildSlice t len (Array.map (fun(p:Nat×Operand)=>(p.1,a.eval p.2)) ⟨ps⟩)) h aF2 (fun e=>by
   have:=aG1 (P:=P) ok inv e (JI hf inv ps);simpa using this)
  exact this
 ·rename_i t x;exact nJ inv h (fun e=>WR ok inv e (E1 x))
 ·rename_i t x y;obtain⟨h1,rfl⟩:=Bc h;obtain⟨w',hr,hi⟩:=aT9 ok inv h1 (E1 x) (E1 y);exact⟨β,undef,w',.inr ⟨by simp[execOp,hr],rfl⟩,ai.undef,hi,af.cq _ _,aH9 h1⟩
 ·rename_i x;obtain⟨h1,rfl⟩:=uX h;have hx:=E1 x;generalize qB:a.eval x=xv at hx;refine⟨β,xv,w,.inl ?_,?_,inv,af.cq _ _,xk _⟩
  ·unfold LP at h1;split at h1
   ·rename_i q hq;rw[hq] at hx;cases hx;simp[execOp,qB]
   ·rename_i f p q hq;rw[hq] at hx;cases hx;simp[execOp,qB]
   ·rename_i q hq;rw[hq] at hx;cases hx;simp[execOp,qB]
   ·rename_i B l hq;rw[hq] at hx;cases hx;simp[execOp,qB]
   ·cases h1
  ·unfold LP at h1;split at h1
   ·rename_i q hq;rw[hq] at hx;cases h1;exact hx
   ·rename_i f p q hq;rw[hq] at hx;cases h1;exact hx
   ·rename_i q hq;rw[hq] at hx;cases h1;exact hx
   ·rename_i B l hq;rw[hq] at hx;cases h1;exact hx
   ·cases h1
 ·rename_i CU t x y ty;have:=nJ (P:=P) (s:=(do eqGuard CU t x y (a.eval x) (a.eval y);binOp CU t (a.eval x) (a.eval y))) inv h (fun e=>rM ok ba e (E1 x) (E1 y) x y w);exact this
 ·rename_i MC t x;exact nJ inv h (fun e=>KC e (E1 x) P w)
 ·rename_i s d x;unfold Eu at h;split at h
  ·rename_i v0 hc;cases h;obtain⟨v',hr,hv⟩:=PB ok hc (E1 x) w;exact⟨β,v',w,.inl (by simp[execOp,hr]),hv,inv,af.cq _ _,xk _⟩
  ·split at h
   ·rename_i v0 hc;cases h;obtain⟨v',hr,hv⟩:=bb7 ok inv hc (E1 x);exact⟨β,v',w,.inl (by simp[execOp,hr]),hv,inv,af.cq _ _,xk _⟩
   ·exact qI h aJ6 (fun e=>ba0 ok inv e (E1 x))
 ·rename_i f p q;cases h;refine⟨β,.func (.func f) (Array.map a.eval ⟨p⟩) (Array.map a.eval ⟨q⟩),w,.inl (by simp[execOp,Instr.makeFunc]),?_,inv,af.cq _ _,xk _⟩;have:=ai.WZ (f:=f) (y3 hf inv p) (y3 hf inv q);simpa using this
 ·rename_i t x y;exact qI h aF5 (fun e=>aG7 ok inv e (E1 x) (E1 y))
 ·rename_i t x lo hi mx;exact nJ inv h (fun e=>aU8 ok inv e (E1 x) (JJ hf inv lo) (JJ hf inv hi) (JJ hf inv mx))
 ·rename_i t x f;exact nJ inv h (fun e=>aH2 ok e (E1 x) w)
 ·rename_i t x f;exact nJ inv h (fun e=>aY2 ok e (E1 x) w)
 ·rename_i t x i;exact nJ inv h (fun e=>aG9 ok e (E1 x) (E1 i) w)
 ·rename_i t x i;exact nJ inv h (fun e=>Dd ok e (E1 x) (E1 i) w)
 ·rename_i x i;exact nJ inv h (fun e=>aM2 e (E1 x) P w)
 ·rename_i f args _;have bE:=E1 f;unfold zY at h;split at h
  ·rename_i g p q yF;rw[yF] at bE;split at h
   ·cases h
   ·split at h
    ·rename_i r hm;cases h;obtain⟨v0,A0⟩:=r;unfold ap7 at hm;split at hm
     ·rename_i n hx;split at hm
      ·rename_i t ht;split at hm
       ·rename_i e _ _ _ _ hr;replace hm:=au hm;rcases hm with⟨hn,hm⟩|⟨_,hm⟩<;>cases hm
        have gY:=xh hn;obtain⟨x0,rfl,e1⟩:=Da hx;have r1:=E1 x0;rw[e1] at r1;generalize gA:a.eval x0=gx at r1;cases r1;generalize qB:a.eval f=gv at bE;cases bE with
        |func _ _ p' _ q' hp hq h1 h2=>
         have pW:p'=[]:=xA hp.symm;have rz:q'=[]:=xA hq.symm;subst pW;subst rz;obtain⟨ps,IE⟩:=ok.mz g t (Pg ht);obtain⟨cs,aJ,aK,_⟩:=Lib.run_makeNoZero (P:=P) w ps t e (ok.ti t _ hr).1 n gY;have eV:=IE #[.int .i64 (.ofNat n)] w;rw[show(Int.ofNat n)=(n:Int) from rfl] at eV gA;obtain⟨g1,g2⟩:=(inv.drew (w.drawn+1+1)).new (l:=⟨w.heap.size,0,1,cs.size⟩) ⟨.cells (sE (fun _=>J) n []),1,false,false,e⟩ (.cells cs e) rfl
          ⟨cs,e,(0,0),rfl,rfl,by rw[za,xj,xm,List.length_range];show 0+n≤cs.size;omega,(fun i v hv=>by
           rw[za,xj,xx] at hv;obtain⟨j,hj,rfl⟩:=xp.1 hv;have hi:i<n:=by have:=(xe.1 hj).1;simpa using this
           exact⟨cs[i],by rw[Nat.zero_add];exact Array.getElem?_eq_getElem (by omega),.kL _⟩),fun _=>rfl,(fun h=>by cases h),rfl,fun _=>rfl⟩
         refine⟨_,_,_,.inl ?_,ai.slice (β:=β.put A.next ⟨w.heap.size,0,1,cs.size⟩) A.next 0 n n cs.size ⟨w.heap.size,0,1,cs.size⟩ (jl _ _ _) (xk _) aK (by show 0+0+cs.size*1≤cs.size;omega),g1,g2,Nat.le_succ _⟩;simp[execOp,resolve,qB,gA,Deferred.ofValue,invoke,eV,aJ];rfl
       ·cases hm
      ·cases hm
     ·cases hm
    rename_i No;clear No;obtain⟨h1,rfl⟩:=uX h;unfold neV at h1;split at h1
    ·rename_i x hx;replace h1:=au h1;rcases h1 with⟨hb,h1⟩|⟨_,h1⟩
     ·cases h1;obtain⟨x0,rfl,rfl⟩:=Da hx;generalize qB:a.eval f=gv at bE;cases bE with
      |func _ _ p' _ q' hp hq h1 h2=>
       have pW:p'=[]:=xA hp.symm;have rz:q'=[]:=xA hq.symm;subst pW;subst rz;refine⟨β,a.eval x0,w,.inl ?_,E1 x0,inv,af.cq _ _,xk _⟩;have bA:=ok.ne g (Gl hb) (a.eval x0) w;simp[execOp,resolve,qB,Deferred.ofValue,invoke,bA]
     ·cases h1
    ·rename_i l c hx;replace h1:=au h1;rcases h1 with⟨hb,h1⟩|⟨_,h1⟩
     ·cases h1;rw[xf] at hb;have hc:c<256:=xh hb.2;obtain⟨x0,y0,rfl,e1,e2⟩:=Jz hx;have r1:=E1 x0;have r2:=E1 y0;rw[e1] at r1;rw[e2] at r2;generalize gA:a.eval x0=gx at r1;generalize hgy:a.eval y0=gy at r2;cases r1;cases r2;generalize qB:a.eval f=gv at bE;cases bE with
      |func _ _ p' _ q' hp hq h1 h2=>
       have pW:p'=[]:=xA hp.symm;have rz:q'=[]:=xA hq.symm;subst pW;subst rz;refine⟨β,.int .i64 (Nb l c),w,.inl ?_,.int _ _,inv,af.cq _ _,xk _⟩;have Nq:=ok.ib g (Gl hb.1) #[.string ⟨⟨l⟩⟩,.int .u8 (.ofNat c)] w;have aJ:=Lib.run_indexByteString (P:=P) ⟨⟨l⟩⟩ (.ofNat c) w;rw[Xz c hc];rw[show(Int.ofNat c)=(c:Int) from rfl] at Nq aJ;simp[execOp,resolve,qB,gA,hgy,Deferred.ofValue,invoke,Nq,aJ]
     ·cases h1
    ·cases h1
  ·cases h
  ·cases h
  ·cases h
 ·rename_i b args tys;unfold Df at h;split at h
  ·rename_i t x hv;obtain⟨x0,rfl,rfl⟩:=Da hv;have:=nJ (P:=P) (s:=Builtin.len_ #[t] type #[a.eval x0]) inv h (fun e=>bo6 ok inv e (E1 x0));simpa[execOp,resolve,invoke,builtin] using this
  ·rename_i t tx s x hv;obtain⟨s0,x0,rfl,rfl,rfl⟩:=Jz hv;split at h
   ·rename_i p hp;have h:dT (Dl E A t tx (ev E fr s0) (ev E fr x0))= .val v A':=by rw[hp];exact h
    have:=qI (P:=P) (w:=w) (β:=β) (A:=A) (E:=E) (w0:=w0) (s:=Builtin.append_ #[t,tx] type #[a.eval s0,a.eval x0]) h aH7 (fun e=>aS3 ok inv e (E1 s0) (E1 x0));simpa[execOp,resolve,invoke,builtin] using this
   ·have:=qI (P:=P) (w:=w) (β:=β) (A:=A) (E:=E) (w0:=w0) (s:=Builtin.append_ #[t,tx] type #[a.eval s0,a.eval x0]) h aJ9 (fun e=>bb2 ok inv e (E1 s0) (E1 x0));simpa[execOp,resolve,invoke,builtin] using this
  ·rename_i t tx s x hv;obtain⟨s0,x0,rfl,rfl,rfl⟩:=Jz hv;have:=qI (P:=P) (w:=w) (β:=β) (A:=A) (E:=E) (w0:=w0) (s:=Builtin.copy_ #[t,tx] type #[a.eval s0,a.eval x0]) h aM8 (fun e=>PA ok inv e (E1 s0) (E1 x0));simpa[execOp,resolve,invoke,builtin] using this
  ·rename_i t x hv;obtain⟨x0,rfl,rfl⟩:=Da hv;have:=qI (P:=P) (w:=w) (β:=β) (A:=A) (E:=E) (w0:=w0) (s:=Builtin.clear_ #[t] type #[a.eval x0]) h aJ4 (fun e=>aZ3 ok inv e (E1 x0));simpa[execOp,resolve,invoke,builtin] using this
  ·rename_i t x hv;obtain⟨x0,rfl,rfl⟩:=Da hv;have:=nJ (P:=P) (s:=Builtin.cap_ #[t] type #[a.eval x0]) inv h (fun e=>bA3 ok inv e (E1 x0));simpa[execOp,resolve,invoke,builtin] using this
  ·have:=fun ts:Array xN=>nJ (P:=P) (s:=Builtin.max_ ts type ⟨args.map a.eval⟩) inv h (fun e=>⟨v,bo3 e (y3 hf inv args)⟩)
   simpa[execOp,resolve,invoke,builtin] using this _
  ·have:=fun ts:Array xN=>nJ (P:=P) (s:=Builtin.min_ ts type ⟨args.map a.eval⟩) inv h (fun e=>⟨v,bo2 e (y3 hf inv args)⟩)
   simpa[execOp,resolve,invoke,builtin] using this _
  ·rename_i x hv;obtain⟨x0,rfl,rfl⟩:=Da hv;have:=fun ts:Array xN=>nJ (P:=P) (s:=Builtin.unsafeSliceData_ ts type #[a.eval x0]) inv h (fun e=>aV1 e (E1 x0))
   simpa[execOp,resolve,invoke,builtin] using this _
  ·rename_i t t2 x y hv;obtain⟨x0,y0,rfl,rfl,rfl⟩:=Jz hv;have:=qI (P:=P) (w:=w) (β:=β) (A:=A) (E:=E) (w0:=w0) (s:=Builtin.unsafeString_ #[t,t2] type #[a.eval x0,a.eval y0]) h aK0 (fun e=>bb6 ok inv e (E1 x0) (E1 y0));simpa[execOp,resolve,invoke,builtin] using this
  ·cases h
 ·rename_i t r;exact qI h aI4 (fun e=>aW4 ok inv e (JJ hf inv r))
 ·rename_i t x k b;exact nJ inv h (fun e=>aP3 ok ba inv e (E1 x) (E1 k))
 ·rename_i t m k x;obtain⟨h1,rfl⟩:=Bc h;obtain⟨w',hr,hi⟩:=Xg ok ba inv h1 (E1 m) (E1 k) (E1 x);exact⟨β,undef,w',.inr ⟨by simp[execOp,hr],rfl⟩,ai.undef,hi,af.cq _ _,Vi h1⟩
 ·rename_i t m k x;obtain⟨h1,rfl⟩:=Bc h;obtain⟨w',hr,hi⟩:=Xg ok ba inv h1 (E1 m) (E1 k) (E1 x);exact⟨β,undef,w',.inr ⟨by simp[execOp,hr],rfl⟩,ai.undef,hi,af.cq _ _,Vi h1⟩
 ·rename_i t m k;exact qI h aJ0 (fun e=>aY4 ok ba inv e (E1 m) (E1 k))
 ·rename_i t m s x;obtain⟨h1,rfl⟩:=Bc h;obtain⟨w',hr,hi⟩:=aQ9 (P:=P) (t:=t) inv h1 (E1 m) (E1 s) (E1 x);exact⟨β,undef,w',.inr ⟨by simp[execOp,hr],rfl⟩,ai.undef,hi,af.cq _ _,aH3 h1⟩
 ·rename_i t x;exact qI h aI2 (fun e=>aV4 ok inv e (E1 x))
 ·unfold Iu at h;split at h<;>cases h
 ·rename_i it;exact nJ inv h (fun e=>aX2 inv e (E1 it))
 ·cases h
def Qn(P:Program)(β:af)(w:World)(s:Sem Next)(args':List xM):cT→Prop
 | .fn f=>s.run P w= .ok (.enter f ⟨args'⟩) w
 | .rd L=>∃l,β L=some l∧s.run P w=(Instr.yield l.b ⟨args'⟩).run P w
 | .dy v=>∃f',ai β v f'∧∀g p q fn c,f'= .func (.func g) ⟨p⟩ ⟨q⟩→P.funcs[g]? =some fn→fn.body=some c→ ¬fn.name= "runtime.NumGoroutine"→s.run P w= .ok (.enter g ⟨p++args'++q⟩) w
include ok inv in
theorem be0{n:Nat}{fr:Gt}{a:Act}(hf:cf β n fr a.tmps){o:Oper}{f:cT}{args:List xM}(h:aF E sq A fr o.op= .call f args):
 ∃args',aP β args args'∧Qn P β w (execOp a.eval o) args' f:=by
 obtain⟨dst,op,type,uz,after,guard⟩:=o;have E1:=jX (a:=a) inv hf;unfold aF at h;simp only at h;split at h
 case h_22=>
  rename_i g as _;have hg:=E1 g;unfold zY at h;split at h
  ·rename_i I5 p q yF;split at h
   ·rename_i nm Tw ta ps rt nf nt rs bd nr ou fi el ln me tn pb;cases h;rw[yF] at hg;obtain⟨ER,BJ⟩:=ok.fn I5 _ pb;generalize qB:a.eval g=gv at hg;cases hg with
    |func _ _ p' _ q' hp hq h1 h2=>
     refine⟨p'++as.map a.eval++q',?_,?_⟩
     ·rw[jm,jm];exact(aP.append ⟨hp,h1⟩ (y3 hf inv as)).append ⟨hq,h2⟩
     ·have P4: ¬nm= "runtime.NumGoroutine":=by simpa using BJ
      simp[Qn,execOp,resolve,qB,Deferred.ofValue,invoke,callFunc,program,Sem.run,ER,P4]
   ·split at h
    ·cases h
    ·unfold dW at h;split at h<;>cases h
  ·rename_i L yF;cases h;rw[yF] at hg;generalize qB:a.eval g=gv at hg;cases hg with
   |yield _ l hl=>
    refine⟨as.map a.eval,y3 hf inv as,l,hl,?_⟩;simp[execOp,resolve,qB,Deferred.ofValue,invoke]
  ·rename_i c yF;cases h;rw[yF] at hg;refine⟨as.map a.eval,y3 hf inv as,_,hg,fun I5 p q fn cd hfv pb hb iL=> ?_⟩;obtain⟨f1,f2,f3,f4,f5,f6,f7,f8,f9,f10,f11,f12,f13,f14,f15,f16⟩:=fn;simp only at hb iL;subst hb;simp[execOp,resolve,hfv,Deferred.ofValue,invoke,callFunc,program,Sem.run,pb,iL]
  ·cases h
 case h_23=>
  unfold Df at h;split at h
  all_goals first
   |cases h
   |(unfold dW at h;split at h<;>cases h)
   |(unfold dT at h;split at h<;>cases h)
   |(split at h
     ·cases h
     ·unfold dT at h;split at h<;>cases h)
 all_goals first
  |cases h
  |(unfold dW at h;split at h<;>cases h)
  |(unfold dT at h;split at h<;>cases h)
  |(unfold o4 at h;split at h<;>cases h)
  |(unfold Iu at h;split at h<;>cases h)
  |(unfold Eu at h
    split at h
    ·cases h
    ·split at h
     ·cases h
     ·unfold dT at h;split at h<;>cases h)
include inv in
theorem bM8{n:Nat}{fr:Gt}{a:Act}(hf:cf β n fr a.tmps){o:Oper}{l:List (xM×AW)}(h:aF E sq A fr o.op= .nd l):
 ∃p∈l,Bp P w0 E.G β A w (execOp a.eval o) p.1 p.2:=by
 obtain⟨dst,op,type,uz,after,guard⟩:=o;have E1:=jX (a:=a) inv hf;unfold aF at h;simp only at h;split at h
 case h_31=>
  rename_i it;unfold Iu at h;split at h
  ·rename_i l2 hn;cases h;obtain⟨p,hp,⟨ah,v',w',hr,hv,hi,hg⟩,aK⟩:=Pf (P:=P) (ty:=type) inv hn (E1 it);exact⟨p,hp,ah,v',w',.inl (by simp[execOp,hr]),hv,hi,hg,aK⟩
  ·cases h
 case h_22=>
  unfold zY at h;split at h
  ·split at h
   ·cases h
   ·split at h
    ·cases h
    ·unfold dW at h;split at h<;>cases h
  ·cases h
  ·cases h
  ·cases h
 case h_23=>
  unfold Df at h;split at h
  all_goals first
   |cases h
   |(unfold dW at h;split at h<;>cases h)
   |(unfold dT at h;split at h<;>cases h)
   |(split at h
     ·cases h
     ·unfold dT at h;split at h<;>cases h)
 all_goals first
  |cases h
  |(unfold dW at h;split at h<;>cases h)
  |(unfold dT at h;split at h<;>cases h)
  |(unfold o4 at h;split at h<;>cases h)
  |(unfold Eu at h
    split at h
    ·cases h
    ·split at h
     ·cases h
     ·unfold dT at h;split at h<;>cases h)
end
def xZ(E:aq)(sq:List (Nat×List xO))(A:AW)(fr:Gt)(op:Op):R:=
 match A.tape with
 |[]=> .fail
 |nd::r=>match pF E sq A fr op nd with
  |some v=> .val v (A.pop r)
  |none=> .fail
def orR(r:R):R→R:=R.rec (motive:=fun _=>R→R) (fun s=>s) (fun v A _=> .val v A) (fun f a _=> .call f a) (fun l _=> .nd l) r
def sD(E:aq)(A:AW)(fr:Gt)(op:Op):R:=
 match op with
 | .call ⟨.builtin .append,⟨[s,x]⟩,⟨[t,tx]⟩⟩=>dT (S6 E A t tx (ev E fr s) (ev E fr x))
 | .store t a x=>o4 (PK E A t (ev E fr a) (ev E fr x))
 | .makeSlice t l c=>dT (Ty E A t (ev E fr l) (ev E fr c))
 | .convert s d x=>dT (Qh E A s d (ev E fr x))
 | .call ⟨.builtin .unsafeSliceData,⟨[x]⟩,_⟩=>dT (PS A (ev E fr x))
 | .call ⟨.builtin .unsafeString,⟨[x,y]⟩,⟨[t,_]⟩⟩=>dT (Qo E A t (ev E fr x) (ev E fr y))
 | .slice t x lo hi none=>dT (PP E A t (ev E fr x) (sV E fr lo) (uJ E fr hi))
 | .call ⟨.builtin .copy,⟨[d,x]⟩,⟨[t,tx]⟩⟩=>dT (Rr E A t tx (ev E fr d) (ev E fr x))
 | .call ⟨.value f,⟨[x]⟩,_⟩=>dT (RY E A (ev E fr f) (ev E fr x))
 | .makeMap _ none=> .val (Kh A).1 (Kh A).2
 | .mapUpdate t m k x=>o4 (RA E A t (ev E fr m) (ev E fr k) (ev E fr x))
 |_=> .fail
def mark(A:AW):Option AW:=
 match A.tape with
 |[]=>none
 |nd::r=>match nd.k with
  | .own 0=>some (A.pop r)
  |_=>none
def bp1(v:xM):Bool:=match v with| .slice none 0 0=>true| .iface _ _=>true|_=>false
def KO(E:aq)(fr:Gt)(op:Op):Bool:=match op with| .call ⟨.builtin .append,⟨[x,_]⟩,_⟩=>bp1 (ev E fr x)| .makeMap _ none=>true|_=>false
def ju(E:aq)(sq:List (Nat×List xO))(A:AW)(fr:Gt)(op:Op):R:=
 match bs (KO E fr op) (mark A) none with
 |some A1=>sD E A1 fr op
 |none=>orR (Fo op E sq A fr) (orR (xZ E sq A fr op) (sD E A fr op))
theorem Om(E:aq)(sq:List (Nat×List xO))(A:AW)(fr:Gt)(op:Op):(ju E sq A fr op=aF E sq A fr op∧aF E sq A fr op≠ .fail)∨ju E sq A fr op=xZ E sq A fr op∨ju E sq A fr op=sD E A fr op∨∃nd r,A.tape=nd::r∧ju E sq A fr op=sD E (A.pop r) fr op:=by
 unfold ju;split
 ·rename_i A1 hm;replace hm:mark A=some A1:=(au hm).elim (fun h=>h.2) (fun h=>by cases h.2);unfold mark at hm;split at hm
  ·cases hm
  ·rename_i nd r ht;split at hm
   ·cases hm;exact .inr (.inr (.inr ⟨nd,r,ht,rfl⟩))
   ·cases hm
 ·rw[GL];cases h:aF E sq A fr op with
  |fail=>
   cases h2:xZ E sq A fr op with
   |fail=>exact .inr (.inr (.inl rfl))
   |_=>exact .inr (.inl rfl)
  |_=>exact .inl ⟨rfl,by simp⟩
theorem OA{E:aq}{sq:List (Nat×List xO)}{A:AW}{fr:Gt}{op:Op}{r:R}(h:xZ E sq A fr op=r)(hr:r≠ .fail):∃nd l v,A.tape=nd::l∧pF E sq A fr op nd=some v∧r= .val v (A.pop l):=by
 unfold xZ at h;split at h
 ·exact absurd h.symm hr
 ·rename_i nd l ht;split at h
  ·rename_i v hv;exact⟨nd,l,v,ht,hv,h.symm⟩
  ·exact absurd h.symm hr
theorem aK3{E:aq}{sq:List (Nat×List xO)}{A:AW}{g g':Gt}{op:Op}(h:∀nd,pF E sq A g op nd=pF E sq A g' op nd):xZ E sq A g op=xZ E sq A g' op:=by
 unfold xZ;split
 ·rfl
 ·rw[h]
theorem Jv{E:aq}{A:AW}{fr:Gt}{op:Op}:(∀f args,sD E A fr op≠ .call f args)∧∀l,sD E A fr op≠ .nd l:=by
 unfold sD;split
 ·unfold dT;split<;>exact⟨(fun _ _ h=>by cases h),(fun _ h=>by cases h)⟩
 ·unfold o4;split<;>exact⟨(fun _ _ h=>by cases h),(fun _ h=>by cases h)⟩
 ·unfold dT;split<;>exact⟨(fun _ _ h=>by cases h),(fun _ h=>by cases h)⟩
 ·unfold dT;split<;>exact⟨(fun _ _ h=>by cases h),(fun _ h=>by cases h)⟩
 ·unfold dT;split<;>exact⟨(fun _ _ h=>by cases h),(fun _ h=>by cases h)⟩
 ·unfold dT;split<;>exact⟨(fun _ _ h=>by cases h),(fun _ h=>by cases h)⟩
 ·unfold dT;split<;>exact⟨(fun _ _ h=>by cases h),(fun _ h=>by cases h)⟩
 ·unfold dT;split<;>exact⟨(fun _ _ h=>by cases h),(fun _ h=>by cases h)⟩
 ·unfold dT;split<;>exact⟨(fun _ _ h=>by cases h),(fun _ h=>by cases h)⟩
 ·exact⟨(fun _ _ h=>by cases h),(fun _ h=>by cases h)⟩
 ·unfold o4;split<;>exact⟨(fun _ _ h=>by cases h),(fun _ h=>by cases h)⟩
 ·exact⟨(fun _ _ h=>by cases h),(fun _ h=>by cases h)⟩
section
variable{P:Program}{E:aq}(ok:E.Ok P){sq:List (Nat×List xO)}(ba:E.Seq P sq){w0 w:World}{β:af}{A:AW}(inv:Inv w0 E.G β A w)
include ok inv in
theorem Xr{n:Nat}{fr:Gt}{a:Act}(hf:cf β n fr a.tmps){o:Oper}{v:xM}{A':AW}(h:sD E A fr o.op= .val v A'):Bp P w0 E.G β A w (execOp a.eval o) v A':=by
 obtain⟨dst,op,type,uz,after,guard⟩:=o;have E1:=jX (a:=a) inv hf;unfold sD at h;simp only at h;split at h
 ·rename_i s x t tx;have h1:=mZ h;obtain⟨⟨ah,v',w',hr,hv,hi,hg⟩,hn⟩:=bi0 (ty:=type) ok h1 inv (E1 s) (E1 x);exact⟨ah,v',w',.inl (by simp[execOp,resolve,invoke,builtin,hr]),hv,hi,hg,hn⟩
 ·rename_i t x y;obtain⟨h1,rfl⟩:=Bc h;obtain⟨ah,w',hr,hi,hg,hn⟩:=aO2 ok h1 inv (E1 x) (E1 y);exact⟨ah,undef,w',.inr ⟨by simp[execOp,hr],rfl⟩,ai.undef,hi,hg,hn⟩
 ·rename_i t x y;have h1:=mZ h;obtain⟨⟨ah,v',w',hr,hv,hi,hg⟩,hn⟩:=aW5 ok h1 inv (E1 x) (E1 y);exact⟨ah,v',w',.inl (by simp[execOp,hr]),hv,hi,hg,hn⟩
 ·rename_i s d x;have h1:=mZ h;obtain⟨⟨ah,v',w',hr,hv,hi,hg⟩,hn⟩:=aR8 ok h1 inv (E1 x);exact⟨ah,v',w',.inl (by simp[execOp,hr]),hv,hi,hg,hn⟩
 ·rename_i x ts;have h1:=mZ h;obtain⟨⟨ah,v',w',hr,hv,hi,hg⟩,hn⟩:=aO8 (tys:=ts) (ty:=type) ok h1 inv (E1 x);exact⟨ah,v',w',.inl (by simp[execOp,resolve,invoke,builtin,hr]),hv,hi,hg,hn⟩
 ·rename_i x y t ti;have h1:=mZ h;obtain⟨⟨ah,v',w',hr,hv,hi,hg⟩,hn⟩:=aT0 (it:=ti) (ty:=type) ok h1 inv (E1 x) (E1 y);exact⟨ah,v',w',.inl (by simp[execOp,resolve,invoke,builtin,hr]),hv,hi,hg,hn⟩
 ·rename_i t x lo hi;have h1:=mZ h;obtain⟨ah,v',hr,hv,hi',hg,hn⟩:=bc5 ok hf h1 inv;exact⟨ah,v',w,.inl (by simp[execOp,hr]),hv,hi',hg,hn⟩
 ·rename_i d x t tx;have h1:=mZ h;obtain⟨⟨ah,v',w',hr,hv,hi,hg⟩,hn⟩:=aZ0 (ty:=type) ok h1 inv (E1 d) (E1 x);exact⟨ah,v',w',.inl (by simp[execOp,resolve,invoke,builtin,hr]),hv,hi,hg,hn⟩
 ·rename_i f x ts;have h1:=mZ h;obtain⟨g,hgf,ah,v',w',hr,hv,hi,hg,hn⟩:=be4 ok h1 inv (E1 f) (E1 x);exact⟨ah,v',w',.inl (by simp[execOp,resolve,hgf,Deferred.ofValue,invoke,hr]),hv,hi,hg,hn⟩
 ·cases h;rename_i t;obtain⟨ah,v',w',hr,hv,hi,hg⟩:=aP2 (P:=P) inv t;exact⟨ah,v',w',.inl (by simp[execOp,hr]),hv,hi,hg,Nat.le_succ _⟩
 ·rename_i t m k x;obtain⟨h1,rfl⟩:=Bc h;obtain⟨w',hr,hi,hn⟩:=bb8 ok h1 inv (E1 m) (E1 k) (E1 x);exact⟨β,undef,w',.inr ⟨by simp[execOp,hr],rfl⟩,ai.undef,hi,af.cq _ _,hn⟩
 ·cases h
include ok ba inv
theorem bn6{n:Nat}{fr:Gt}{a:Act}(hf:cf β n fr a.tmps){o:Oper}{v:xM}{A':AW}(h:ju E sq A fr o.op= .val v A'):Bp P w0 E.G β A w (execOp a.eval o) v A':=by
 rcases Om E sq A fr o.op with⟨h1,_⟩|h1|h1|⟨nd,r,ht,h1⟩
 ·exact Qy ok ba inv hf (h1.symm.trans h)
 ·obtain⟨nd,l,v2,ht,hv,hr⟩:=OA (h1.symm.trans h) (by simp);cases hr;obtain⟨v',aJ,fB⟩:=Xh ok ba inv hf hv (ok.q _ _ (inv.eO nd (by rw[ht];exact xn)));exact⟨β,v',w,.inl aJ,fB,inv.pop (fun x hx=>by rw[ht];exact xo _ hx),af.cq _ _,xk _⟩
 ·exact Xr ok inv hf (h1.symm.trans h)
 ·have:=Xr ok (inv.pop (r:=r) (fun x hx=>by rw[ht];exact xo _ hx)) hf (h1.symm.trans h);exact this
omit ba in
theorem aV9{n:Nat}{fr:Gt}{a:Act}(hf:cf β n fr a.tmps){o:Oper}{f:cT}{args:List xM}(h:ju E sq A fr o.op= .call f args):∃args',aP β args args'∧Qn P β w (execOp a.eval o) args' f:=by
 rcases Om E sq A fr o.op with⟨h1,_⟩|h1|h1|⟨nd,r,ht,h1⟩
 ·exact be0 ok inv hf (h1.symm.trans h)
 ·obtain⟨nd,l,v2,ht,hv,hr⟩:=OA (h1.symm.trans h) (by simp);cases hr
 ·exact absurd (h1.symm.trans h) (Jv.1 _ _)
 ·exact absurd (h1.symm.trans h) (Jv.1 _ _)
omit ok ba in
theorem bn7{n:Nat}{fr:Gt}{a:Act}(hf:cf β n fr a.tmps){o:Oper}{l:List (xM×AW)}(h:ju E sq A fr o.op= .nd l):∃p∈l,Bp P w0 E.G β A w (execOp a.eval o) p.1 p.2:=by
 rcases Om E sq A fr o.op with⟨h1,_⟩|h1|h1|⟨nd,r,ht,h1⟩
 ·exact bM8 inv hf (h1.symm.trans h)
 ·obtain⟨nd,l,v2,ht,hv,hr⟩:=OA (h1.symm.trans h) (by simp);cases hr
 ·exact absurd (h1.symm.trans h) (Jv.2 _)
 ·exact absurd (h1.symm.trans h) (Jv.2 _)
end
end
end Go.Ex
