/- A verified evaluator of Go functions. -/
import Derived.Test.YtnjdjocokegphaaGreatDoorX5
import Derived.Lib.MakeNoZero
import Derived.Lib.Bytealg
set_option linter.unusedVariables false
set_option linter.unusedSimpArgs false
namespace Go.Ex
open Go.RowKit
noncomputable section
def JF(A:AW):xM×AW:=(.map (some A.next),A.add ⟨.maps (.slice none 0 0),1,true,false,0⟩)
def R8(E:av)(A:AW)(t:xN)(m k v:xM):Option AW:=
 match E.ti.get none t,m with
 |some ⟨.map kt _,_,_,_,_⟩,.map (some B)=>match E.ti.get none kt,A.get B with
  |some ⟨.string,_,_,_,_⟩,some ⟨.maps c,a,b,false,d⟩=>bs (Nat.ble E.G.n B) (match ny A .CN [c,k,v] with
   |some (u,A1)=>some (A1.put B (some ⟨.maps u,a,b,false,d⟩))
   |none=>none) none
  |_,_=>none
 |_,_=>none
def rW(s:List UInt8):List (List D)→Option Nat|[]=>none|row::t=>if QX s row then some 0 else(rW s t).map (· +1)
theorem WE{s:List UInt8}{v:D}:∀{rows:List (List D)},rW s rows=none→ue s v rows=rows++[[.str s,v]]
 |[],_=>rfl
 |row::t,h=>by
  unfold rW at h;unfold ue;split at h
  ·cases h
  ·rename_i hk;rw[if_neg hk,WE (by simpa using h)];rfl
theorem WD{s:List UInt8}{v:D}:∀{rows:List (List D)} {i:Nat},rW s rows=some i→ue s v rows=rows.set i [.str s,v]∧i<rows.length
 |[],i,h=>by cases h
 |row::t,i,h=>by
  unfold rW at h;unfold ue;split at h
  ·rename_i hk;cases h;rw[if_pos hk];exact⟨rfl,Nat.succ_pos _⟩
  ·rename_i hk;obtain⟨j,hj,rfl⟩:=xp.1 h;obtain⟨e1,e2⟩:=WD (v:=v) hj;rw[if_neg hk,e1];exact⟨rfl,Nat.succ_lt_succ e2⟩
def Hw(es:List MapEntry):List MapEntry:=es.map fun e=>⟨e.key,J,e.born⟩
theorem bo3{β:ah}{rows:List (List D)}{es:List MapEntry}(h:v5 β.z rows es):eX β (Hw es) es:=by
 refine⟨by simp[Hw],fun i e e' h1 h2=> ?_⟩;unfold Hw at h1;rw[xx,h2] at h1;cases h1;have hi:i<rows.length:=by rw[h.1];exact(xe.1 h2).1
 obtain⟨s,d,_,hk,_⟩:=h.2 i _ e' (xc hi) h2;exact⟨rfl,by show ai β e'.key e'.key;rw[hk];exact .string _,.j9 _⟩
theorem W2{E:av}{kt:xN}{a1 a2 a3 a4}(hr:E.ti.get none kt=some ⟨.string,a1,a2,a3,a4⟩){z:Nat→Option (Array xM)}(s:List UInt8):∀(rows:List (List D)) (es:List MapEntry) (i:Nat),v5 z rows es→
 n4 E [] kt (.string ⟨⟨s⟩⟩) (Hw es) i=some ((rW s rows).map fun j=>(i+j,J))
 |[],es,i,h=>by
  have:es=[]:=xA h.1.symm;subst this;rfl
 |row::rows,[],i,h=>by simp[v5] at h
 |row::rows,e::es,i,h=>by
  obtain⟨a,d,fI,hk,_⟩:=h.2 0 row e rfl rfl;have ht:v5 z rows es:=⟨by have:=h.1;simpa using this,fun j r e h1 h2=>h.2 (j+1) r e (by simpa using h1) (by simpa using h2)⟩;show(match jG E [] kt (.string ⟨⟨s⟩⟩) e.key with
   |none=>none
   |some true=>some (some (i,J))
   |some false=>n4 E [] kt (.string ⟨⟨s⟩⟩) (Hw es) (i+1))=_
  have hke:jG E [] kt (.string ⟨⟨s⟩⟩) e.key=some (decide (s=a)):=by
   rw[hk];show(match E.ti.get none kt with|some ⟨.string,_,_,_,_⟩=>some (uc s a)|_=>none)=_;rw[hr,ya]
  rw[hke];unfold rW;rw[fI];show _=some (Option.map _ (if decide (s=a)=true then some 0 else _));by_cases UJ:s=a
  ·rw[if_pos (decide_eq_true UJ),decide_eq_true UJ];rfl
  ·rw[decide_eq_false UJ,if_neg (by decide),W2 hr s rows es (i+1) ht];cases rW s rows with
   |none=>rfl
   |some j=>simp;omega
theorem Wx{v:xM}(h:iH v=true):∃c,v= .chan (some (c+1)):=by
 unfold iH at h;split at h
 ·exact⟨_,rfl⟩
 ·cases h
section
variable{P:Program}{E:av}(ok:E.Ok P)
theorem bq2:E.Seq P []:=by
 constructor
 all_goals intros
 all_goals first|(rename_i h _;cases h;done)|skip
 all_goals simp_all [qe]
theorem bc2{w0 w:World}{A:AW}{β:ah}(inv:Inv w0 E.G β A w)(t:xN):g9 w0 E.G β A ((Instr.makeMap t none).run P w) (JF A).1 (JF A).2:=by
 obtain⟨h1,h2⟩:=inv.new ⟨.maps (.slice none 0 0),1,true,false,0⟩ (.map #[] 0) ⟨w.heap.size,0,1,0⟩ rfl ⟨[],0,[],rfl,rfl,rfl,fun i row e h=>by simp at h⟩;exact⟨_,.map (some w.heap.size),_,by simp[Instr.makeMap],.map A.next _ (jy _ _ _),h1,h2⟩
include ok in
theorem bp2{w0 w:World}{A A':AW}{β:ah}{t:xN}{m m' k k' v v':xM}(h:R8 E A t m k v=some A')(inv:Inv w0 E.G β A w)(hm:ai β m m')(hk:ai β k k')(hv:ai β v v'):∃w',(Instr.mapUpdate t m' k' v').run P w= .ok () w'∧Inv w0 E.G β A' w'∧A.next≤A'.next:=by
 unfold R8 at h;split at h;rotate_left
 ·cases h
 rename_i kt et _ _ _ _ B hr;have hu:=(ok.ti t _ hr).1;split at h;rotate_left
 ·cases h
 rename_i c a b d Ei hg;replace h:=aB h;rcases h with⟨hG,h⟩|⟨_,h⟩;rotate_left
 ·cases h
 split at h;rotate_left
 ·cases h
 rename_i u A1 eR;cases h;have nS:=xh hG;obtain⟨nd,rt,cu,ht,jr,gA,jd,rfl,rfl⟩:=oG eR;have hq:dw β.d nd:=ok.q _ _ (inv.fw nd (by rw[ht];exact xn));unfold dw at hq;rw[jr] at hq;obtain⟨ds,dd,q1,q2,q3⟩:=hq;rw[gA] at q1;rw[jd] at q2;obtain⟨q4,q5⟩:=oJ q2;obtain⟨dm,ds1,rfl,e1,q7⟩:=kw q1;obtain⟨dk,dv,rfl,e2,e3⟩:=nX q7;cases hm with
 |map _ l hl=>
  obtain⟨aD,ck,rows,g1,g2,g3⟩:=inv.cont B _ l hg hl;rw[zX g2] at e1;cases e1;have cw:O5 (.sl rows) dk dv=some dd:=q3;unfold O5 at cw;split at cw;rotate_left
  ·cases cw
  rename_i QL s vv;cases vv;split at cw;rotate_left
  ·cases cw
  rename_i gd;cases cw;have js:=gL e2 hk;cases js;have cx:=gL e3 hv;have co3:=W2 (E:=E) Ei (z:=β.z) s rows aD 0 g3;have iL:zU E [] kt (.string ⟨⟨s⟩⟩)=true:=by
   unfold zU;have:jG E [] kt (.string ⟨⟨s⟩⟩) (.string ⟨⟨s⟩⟩)=some true:=by
    show(match E.ti.get none kt with|some ⟨.string,_,_,_,_⟩=>some (uc s s)|_=>none)=_;rw[Ei,ya,decide_eq_true rfl]
   rw[this]
  obtain⟨⟨r',f1,f2⟩,f3,f4,f5,f6⟩:=Cf (P:=P) ok bq2 iL (.string (β:=β) ⟨⟨s⟩⟩) co3 (bo3 g3) w;have iy:(getObj l.b).run P w= .ok (.map ⟨aD⟩ ck) w:=by simp[getObj,Sem.run,g1]
  have aX:l.b<w.heap.size:=(Array.getElem?_eq_some_iff.1 g1).1;have fin:∀(nV:List MapEntry) (ck2:Nat),v5 β.z (ue s dv rows) nV→(setObj l.b (.map ⟨nV⟩ ck2)).run P w= .ok () {w with heap:=w.heap.setIfInBounds l.b (.map ⟨nV⟩ ck2)}∧Inv w0 E.G β ((A.pop rt).put B (some ⟨.maps (.chan (some (cu+1))),a,b,false,d⟩)) {w with heap:=w.heap.setIfInBounds l.b (.map ⟨nV⟩ ck2)}:=fun nV ck2 eK=>by
   refine⟨by simp[setObj,Sem.run,g1],?_⟩;have i2:=inv.pop (r:=rt) (fun x hx=>by rw[ht];exact xo _ hx);refine i2.write B l _ _ hg hl nS ⟨rfl,rfl,rfl,by simp,fun k hk bq=> ?_⟩ (by simp) ?_
   ·show(w.heap.setIfInBounds l.b _)[k]? =_;rw[Array.getElem?_setIfInBounds_ne (fun e=>bq (by rw[e]))]
   ·show hM β l _ ((w.heap.setIfInBounds l.b _)[l.b]?);rw[Array.getElem?_setIfInBounds_self_of_lt aX];exact⟨nV,ck2,_,rfl,by show(β.d cu).bind _=_;rw[q4];rfl,eK⟩
  cases H5:rW s rows with
  |none=>
   rw[H5] at f2;have ej:r'=none:=by
    rcases f2 with⟨_,e⟩|⟨_,_,_,e,_⟩
    ·exact e
    ·cases e
   subst ej;have HW:=WE (v:=dv) H5;obtain⟨aM,bU⟩:=fin (aD++[⟨.string ⟨⟨s⟩⟩,v',ck⟩]) (ck+1) (by
    rw[HW];refine⟨by simp[g3.1],fun i row e h1 h2=> ?_⟩;by_cases hi:i<rows.length
    ·rw[xw hi] at h1;rw[xw (by rw[←g3.1];exact hi)] at h2;exact g3.2 i row e h1 h2
    ·rw[xq (by omega)] at h1;rw[xq (by rw[←g3.1];omega),←g3.1] at h2;cases hq:i - rows.length with
     |zero=>rw[hq] at h1 h2;simp at h1 h2;subst h1;subst h2;exact⟨s,dv,rfl,rfl,cx⟩
     |succ q=>rw[hq] at h1;simp at h1)
   refine⟨_,?_,bU,xk _⟩;have Ar:(⟨aD⟩:Array MapEntry).push ⟨.string ⟨⟨s⟩⟩,v',ck⟩=⟨aD++[⟨.string ⟨⟨s⟩⟩,v',ck⟩]⟩:=by apply Array.ext';simp
   simp only [Instr.mapUpdate,Sem.run_bind,run_underlying hu,iy,f3,f1,Result.andThen_ok];rw[Ar];exact aM
  |some j0=>
   rw[H5] at f2;obtain⟨HW,zm⟩:=WD (v:=dv) H5;have ej:∃v1,r'=some (j0,v1):=by
    rcases f2 with⟨e,_⟩|⟨j1,v1,wa,e,e2,_⟩
    ·cases e
    ·have e:some (0+j0,J)=some (j1,v1):=e;injection e with e;injection e with e3 e4;exact⟨wa,by rw[e2,←e3,Nat.zero_add]⟩
   obtain⟨wa,rfl⟩:=ej;have kM:j0<aD.length:=by rw[←g3.1];exact zm
   have fk:aD[j0]? =some aD[j0]:=xc kM;obtain⟨s0,d0,cm6,co0,_⟩:=g3.2 j0 _ _ (xc zm) fk;have Ee:s0=s:=by
    have:∀(rows:List (List D)) (j:Nat),rW s rows=some j→∀row,rows[j]? =some row→QX s row=true:=by
     intro rows
     induction rows with
     |nil=>intro j h;cases h
     |cons r t ih=>
      intro j h row fI;unfold rW at h;split at h
      ·rename_i hk;cases h;simp at fI;subst fI;exact hk
      ·obtain⟨i,hi,rfl⟩:=xp.1 h;exact ih i hi row (by simpa using fI)
    have:=this rows j0 H5 _ (xc zm);rw[cm6] at this;exact(of_decide_eq_true this).symm
   subst Ee;obtain⟨aM,bU⟩:=fin (aD.set j0 ⟨.string ⟨⟨s0⟩⟩,v',aD[j0].born⟩) ck (by
    rw[HW];refine⟨by simp[g3.1],fun i row e h1 h2=> ?_⟩;rw[List.getElem?_set] at h1 h2;by_cases hi:j0=i
    ·subst hi;rw[if_pos rfl,if_pos zm] at h1;rw[if_pos rfl,if_pos kM] at h2;cases h1;cases h2;exact⟨s0,dv,rfl,rfl,cx⟩
    ·rw[if_neg hi] at h1 h2;exact g3.2 i row e h1 h2)
   refine⟨_,?_,bU,xk _⟩;have vR:=II fk (fun e=>{e with key:= .string ⟨⟨s0⟩⟩,val:=v'});have dh8:(Instr.keyThatStays ((((⟨aD⟩:Array MapEntry)[j0]?).map (·.key)).getD (.string ⟨⟨s0⟩⟩)) (.string ⟨⟨s0⟩⟩)).run P w= .ok (.string ⟨⟨s0⟩⟩) w:=by
    have:(((⟨aD⟩:Array MapEntry)[j0]?).map (·.key)).getD (.string ⟨⟨s0⟩⟩)= .string ⟨⟨s0⟩⟩:=by simp[fk,co0]
    rw[this];simp[Instr.keyThatStays,f5]
   simp only [Instr.mapUpdate,Sem.run_bind,run_underlying hu,iy,f3,f1,Result.andThen_ok,dh8];rw[vR];exact aM
end
def Nj(g:Nat)(l:List (Nat×Nat)):Option Nat:=List.rec (motive:=fun _=>Option Nat) none (fun a _ ih=>bs (Nat.beq g a.1) (some a.2) ih) l
theorem Pr{g t:Nat}:∀{l:List (Nat×Nat)},Nj g l=some t→(g,t)∈l
 |[],h=>by cases h
 |a::l,h=>by
  have h':bs (Nat.beq g a.1) (some a.2) (Nj g l)=some t:=h;rcases aB h' with⟨h1,h2⟩|⟨_,h2⟩
  ·cases h2;have:=xb h1;subst this;exact xn
  ·exact xo _ (Pr h2)
def Sz(E:av)(A:AW)(f n:xM):Option (xM×AW):=
 match f with
 | .func (.func g) ⟨[]⟩ ⟨[]⟩=>match Nj g E.mz with
  |some t=>match E.ti.get none t with
   |some ⟨.slice e,_,_,_,_⟩=>bs (iH n) (match ny A (.j6 1 1) [n,n,.int .u8 (.ofNat 0)] with
    |some (_,A1)=>(match ny A1 (.bH 1 0) [] with
     |some (u,A2)=>(match Ct A2 none u 1 e with|some A3=>some (.iface A2.next (.tuple ⟨[]⟩),A3)|none=>none)
     |none=>none)
    |none=>none) none
   |_=>none
  |none=>none
 |_=>none
def QM(E:av)(A:AW)(t:xN)(x lo:xM)(hi:List xM):Option (xM×AW):=
 match E.ti.get none t,x,hi,A.tape with
 |some ⟨.array len e,_,_,_,_⟩,.pointer (some ⟨B,o,none⟩),[],nd::r=>match jE E e with
  |some n=>bs (Nat.beq n 1&&iH lo&&vL nd.k .jF&&lm nd.args [.int .i64 (.ofNat len),lo]&&pC nd.res (.bool true)) (some (.iface B (.tuple ⟨[lo,.int .i64 (.ofNat o),.int .i64 (.ofNat len)]⟩),A.pop r)) none
  |none=>none
 |_,_,_,_=>none
def P1(E:av)(A:AW)(t:xN)(x lo:xM)(hi:List xM):Option (xM×AW):=
 match P2 E A t x lo hi with
 |some r=>some r
 |none=>QM E A t x lo hi
def R0(E:av)(A:AW)(t tx:xN)(d x:xM):Option (xM×AW):=
 match d,E.ti.get none t with
 | .iface _ (.chan (some (_+1))),some ⟨.slice e,_,_,_,_⟩=>match jE E e,x with
  |some _,.slice none 0 0=>some (.int .i64 (.ofNat 0),A)
  |_,_=>none
 | .iface B (.tuple ⟨[iv,.int .i64 (.ofNat off),.int .i64 (.ofNat n)]⟩),some ⟨.slice e,_,_,_,_⟩=>match jE E e,A.get B,A.tape with
  |some z,some ⟨.cells cs,es,ex,false,ty⟩,nd::r=>match mY n (oO off cs),nd.res with
   |some ei,.agg ⟨cn::de⟩=>bs (Nat.beq z 1&&iH x&&JX E tx&&vL nd.k (.EC n)&&lm nd.args (iv::x::ei)&&Nat.beq (bE de) n&&eo iH de&&Nat.ble E.G.n B) (some (cn,(A.pop r).put B (some ⟨.cells (jA de off cs),es,ex,false,ty⟩))) none
   |_,_=>none
  |_,_,_=>none
 |_,_=>none
section
variable{P:Program}{E:av}(ok:E.Ok P)
include ok in
theorem bs1{w0 w:World}{A A':AW}{β:ah}{f f' n n' v:xM}(h:Sz E A f n=some (v,A'))(inv:Inv w0 E.G β A w)(hf:ai β f f')(hn:ai β n n'):
 ∃g,f'= .func (.func g) ⟨[]⟩ ⟨[]⟩∧∃ak v' w',(callFunc g #[n']).run P w= .ok (.value v') w'∧ai ak v v'∧Inv w0 E.G ak A' w'∧β.grow ak A.next∧A.next≤A'.next:=by
 unfold Sz at h;split at h;rotate_left
 ·cases h
 rename_i g;split at h;rotate_left
 ·cases h
 rename_i t H2;split at h;rotate_left
 ·cases h
 rename_i e _ _ _ _ hr;replace h:=aB h;rcases h with⟨_,h⟩|⟨_,h⟩;rotate_left
 ·cases h
 split at h;rotate_left
 ·cases h
 rename_i u0 A1 eR;split at h;rotate_left
 ·cases h
 rename_i u A2 df3;split at h;rotate_left
 ·cases h
 rename_i A3 jM;cases h;obtain⟨nd,rt,cu0,ht,jr,gA,jd,rfl,rfl⟩:=oG eR;have i1:=inv.pop (r:=rt) (fun x hx=>by rw[ht];exact xo _ hx);have hq:dw β.d nd:=ok.q _ _ (inv.fw nd (by rw[ht];exact xn));unfold dw at hq;rw[jr] at hq;obtain⟨ds,d,q1,q2,q3⟩:=hq;rw[gA] at q1;obtain⟨dl,ds1,rfl,e1,q7⟩:=kw q1;obtain⟨dc,zs,rfl,e2,e3⟩:=kw q7;have cw:GU 1 1 dl dc zs=some d:=q3;unfold GU at cw;split at cw;rotate_left
 ·cases cw
 rename_i ln cn;split at cw;rotate_left
 ·cases cw
 rename_i GL;obtain⟨iu,eI,nK⟩:=GL;have iw:=gL e1 hn;cases iw;unfold lj at nK;simp only [xf,decide_eq_true_iff,Nat.mul_one] at nK;obtain⟨nd2,sF,cu,ht2,df9,dg3,qM,rfl,rfl⟩:=oG df3;have i2:=i1.pop (r:=sF) (fun x hx=>by rw[ht2];exact xo _ hx);have pR:dw β.d nd2:=ok.q _ _ (i1.fw nd2 (by rw[ht2];exact xn));unfold dw at pR;rw[df9] at pR;obtain⟨ds2,d2,p1,p2,p3⟩:=pR;rw[dg3] at p1;rw[qM] at p2;obtain⟨p4,p5⟩:=oJ p2;cases p1;have p3':some (D.sl [])=some d2:=p3;cases p3';cases hf with
 |func _ _ p' _ q' hp hq h1 h2=>
  have o7:p'=[]:=xA hp.symm;have pS:q'=[]:=xA hq.symm;subst o7;subst pS;obtain⟨ps,dg6⟩:=ok.mz g t (Pr H2);obtain⟨cs,aM,aR,_⟩:=Lib.run_makeNoZero (P:=P) w ps t e (ok.ti t _ hr).1 ln (by omega);have eK:=dg6 #[.int .i64 (.ofNat ln)] w;obtain⟨g1,g2⟩:=(i2.drew (w.drawn+1+1)).new (l:=⟨w.heap.size,0,1,cs.size⟩) ⟨.cells [],1,false,false,e⟩ (.cells cs e) rfl
   ⟨cs,e,(0,0),rfl,rfl,by simp,(fun i v hv=>by simp at hv),fun _=>rfl,(fun h=>by cases h),rfl,fun _=>rfl⟩
  unfold Ct at jM;simp only at jM;split at jM;rotate_left
  ·cases jM
  rename_i csx esx exx tyx gk;cases jM;have Bk:(β.put ((A.pop rt).pop sF).next ⟨w.heap.size,0,1,cs.size⟩).o ((A.pop rt).pop sF).next=none:=by
   show β.o A.next=none;cases hq:β.o A.next with
   |none=>rfl
   |some v=>have:=inv.jj _ _ hq;omega
  have jl:∀(cT:ah),cT.d=β.d→bQ cT.d (.chan (some (cu+1)))=some (.sl []):=fun cT e=>by
   show(cT.d cu).bind _=_;rw[e,p4];rfl
  have wz:=g1.relabel (B:=((A.pop rt).pop sF).next) (blk':=⟨.own (.chan (some (cu+1))),1,false,false,e⟩) (v:= .slice (some ⟨w.heap.size,0,none⟩) 0 cs.size) gk (Nat.lt_succ_self _) Bk rfl (fun l2 bF=>by
   rw[jy] at bF;cases bF;exact⟨cs,[],heap_alloc_new _ _,rfl,jl _ rfl,rfl,(fun row hr=>by cases hr),by simp,fun i row j d hi hj=>by simp at hi⟩)
   ⟨[],jl _ rfl,.inr ⟨_,cs.size,jy _ _ _,by show(if((A.pop rt).pop sF).next=((A.pop rt).pop sF).next then _ else _)=_;rw[if_pos rfl];rfl,xL _,by show 0+cs.size*1≤cs.size;omega,rfl⟩⟩
  refine⟨g,rfl,_,_,_,?_,ai.raw (β:=(β.put ((A.pop rt).pop sF).next ⟨w.heap.size,0,1,cs.size⟩).pD ((A.pop rt).pop sF).next (.slice (some ⟨w.heap.size,0,none⟩) 0 cs.size)) ((A.pop rt).pop sF).next ln cs.size ⟨w.heap.size,0,1,cs.size⟩ (jy _ _ _) aR (by show(if((A.pop rt).pop sF).next=((A.pop rt).pop sF).next then _ else _)=_;rw[if_pos rfl]),wz,ah.iB g2 (ah.IK _ _ _) (xk _),Nat.le_succ _⟩;rw[eK];have dD6:(Extern.BytealgMakeNoZero.makeNoZero ps #[t] #[.int .i64 (Int.ofNat ln)]).run P w= .ok (.slice (some ⟨w.heap.size,0,none⟩) ln cs.size) (w.drew.drew.alloc (.cells cs e)):=aM;simp[aM];rfl
include ok in
theorem aX8{w0 w:World}{A A':AW}{β:ah}{n:Nat}{g:Gt}{a:Act}(hf:bX β n g a.tmps){t:xN}{x:Operand}{lo hi:Option Operand}{u:xM}(h:QM E A t (ev E g x) (qW E g lo) (sQ E g hi)=some (u,A'))(inv:Inv w0 E.G β A w):
 ∃v',(Instr.sliceAt t (a.eval x) (lo.map a.eval) (hi.map a.eval) none).run P w= .ok v' w∧ai β u v'∧Inv w0 E.G β A' w∧A.next≤A'.next:=by
 unfold QM at h;split at h;rotate_left
 ·cases h
 rename_i len e _ _ _ _ B o nd r hr hx fS ht;split at h;rotate_left
 ·cases h
 rename_i z hs;replace h:=aB h;rcases h with⟨hb,h⟩|⟨_,h⟩;rotate_left
 ·cases h
 cases h;simp only [xf] at hb;obtain⟨⟨⟨⟨b0,b1⟩,b2⟩,b3⟩,b4⟩:=hb;have Vk:=xb b0;subst Vk;have e1:=B9 b2;have e2:=lQ _ _ b3;have e3:=uS b4;obtain⟨cl,uA⟩:=Wx b1;unfold jE at hs;split at hs;rotate_left
 ·cases hs
 rename_i r2 bK;have aU:r2.size=1:=xC hs;have hu:=(ok.ti t _ hr).1;have hq:dw β.d nd:=ok.q _ _ (inv.fw nd (by rw[ht];exact xn));unfold dw at hq;rw[e1] at hq;obtain⟨ds,d,q1,q2,q3⟩:=hq;rw[e2] at q1;rw[e3] at q2;have ui:some (D.bool true)=some d:=q2;cases ui;obtain⟨dx,di,rfl,e5,e6⟩:=nX q1;have Ey:some (D.int .i64 (Int.ofNat len))=some dx:=e5;cases Ey;obtain⟨k,m,rfl,hm⟩:=OK q3;have e7:bQ β.d (qW E g lo)=some (.int k (.ofNat m)):=by rw[uA] at e6⊢;exact e6
 have hv:=ky (a:=a) inv hf x;rw[hx] at hv;generalize gk:a.eval x=xv at hv;have dh1:lo.map a.eval=some (.int k (.ofNat m))∨(lo.map a.eval=none∧m=0):=by
  cases lo with
  |none=>cases uA
  |some y=>
   have hy:=ky (a:=a) inv hf y;have hy2:=gL (v:=ev E g y) e6 hy;left;show some (a.eval y)=_;generalize a.eval y=yv at hy2;cases hy2;rfl
 have AU:((none:Option Nat)=none∧hi.map a.eval=none)∨∃k',(none:Option Nat)=some len∧hi.map a.eval=some (.int k' (.ofNat len)):=by
  cases hi with
  |none=>exact .inl ⟨rfl,rfl⟩
  |some y=>cases fS
 cases hv with
 |ptr _ _ l hl=>
  obtain⟨m',aM,pT,eK⟩:=HF (P:=P) (len:=len) (cap:=len) (a:=m) (b:=len) (Nat.le_of_lt hm) (xk _) (xk _) (hb:=none) rfl dh1 AU false w;have hm3:m'=len:=Nat.le_antisymm eK pT;subst hm3;refine⟨.slice (some ⟨l.b,l.d+o+m,none⟩) (m' - m) (m' - m),?_,.part B o m' m l _ k hl e7 (Nat.le_of_lt hm),inv.pop (fun x hx=>by rw[ht];exact xo _ hx),xk _⟩;have bq: ¬m'=m:=by omega
  have Tk:r2.size=1:=aU;simp[Instr.sliceAt,run_underlying hu,Instr.sureAddr,aM,dD ok bK,Tk,bq,Addr.add_lit]
include ok in
theorem bp9{w0 w:World}{A A':AW}{β:ah}{n:Nat}{g:Gt}{a:Act}(hf:bX β n g a.tmps){t:xN}{x:Operand}{lo hi:Option Operand}{u:xM}(h:P1 E A t (ev E g x) (qW E g lo) (sQ E g hi)=some (u,A'))(inv:Inv w0 E.G β A w):
 ∃ak v',(Instr.sliceAt t (a.eval x) (lo.map a.eval) (hi.map a.eval) none).run P w= .ok v' w∧ai ak u v'∧Inv w0 E.G ak A' w∧β.grow ak A.next∧A.next≤A'.next:=by
 unfold P1 at h;split at h
 ·rename_i h1;cases h;exact bb4 ok hf h1 inv
 ·obtain⟨v',h1,h2,h3,h4⟩:=aX8 ok hf h inv;exact⟨β,v',h1,h2,h3,ah.ca _ _,h4⟩
theorem bi0{z:Nat→Option (Array xM)}{rows:List (List D)}{x':xM}(h:Rd z (.sl rows) x')(c:Nat)(hc:c≤rows.length):
 (∀w,(Builtin.lenOf x').run P w= .ok rows.length w)∧∃x2,Rd z (.sl (rows.take c)) x2∧Builtin.firstCells 1 c x'=Builtin.firstCells 1 c x2:=by
 cases h with
 |qV=>exact⟨fun _=>rfl,_,by simpa using Rd.qV,rfl⟩
 |mL a cp=>exact⟨fun _=>rfl,_,by simpa using Rd.mL a cp,rfl⟩
 |sl _ es b o cp cells hz bq cb pL hs hh=>
  refine⟨fun _=>rfl,.slice (some ⟨b,o,none⟩) (rows.take c).length cp,?_,rfl⟩;by_cases h0:rows.take c=[]
  ·rw[h0];exact .mL _ _
  ·refine .sl _ es b o cp cells hz h0 (fun row hr=>cb row (List.mem_of_mem_take hr)) (by rw[xz];omega) hs fun i row j d v h1 h2 h3=> ?_
   rw[List.getElem?_take] at h1;split at h1
   ·exact hh i row j d v h1 h2 h3
   ·cases h1
include ok in
theorem bm2{w0 w:World}{A A':AW}{β:ah}{t tx ty:xN}{d d' x x' v:xM}(h:R0 E A t tx d x=some (v,A'))(inv:Inv w0 E.G β A w)(hd:ai β d d')(hx:ai β x x'):g9 w0 E.G β A ((Builtin.copy_ #[t,tx] ty #[d',x']).run P w) v A'∧A.next≤A'.next:=by
 unfold R0 at h;split at h
 ·rename_i B c e _ _ _ _ hr;split at h;rotate_left
  ·cases h
  rename_i z hs;cases h;cases hx;have hu:=(ok.ti t _ hr).1;unfold jE at hs;split at hs<;>cases hs
  rename_i re dV;cases hd with
  |own _ _ rows a cap ho ha hd=>
   refine⟨⟨β,.int .i64 0,w,?_,.int _ _,inv,ah.ca _ _⟩,xk _⟩;cases a with
   |none=>simp[Builtin.copy_,run_underlying hu,Builtin.lenOf,dD ok dV,Builtin.firstCells,goInt]
   |some a=>simp[Builtin.copy_,run_underlying hu,Builtin.lenOf,dD ok dV,Builtin.firstCells,goInt,storeCells]
 rotate_left
 ·cases h
 rename_i B iv off n e _ _ _ _ hr;split at h;rotate_left
 ·cases h
 rename_i z cs es ex y4 nd r hs hg ht;split at h;rotate_left
 ·cases h
 rename_i ei cn de o8 jd;replace h:=aB h;rcases h with⟨hb,h⟩|⟨_,h⟩;rotate_left
 ·cases h
 cases h;simp only [xf,dg] at hb;obtain⟨⟨⟨⟨⟨⟨⟨b0,b1⟩,b2⟩,b3⟩,b4⟩,b5⟩,b6⟩,b7⟩:=hb;have Vk:=xb b0;subst Vk;have Vj:=B9 b3;have b4':=lQ _ _ b4;have EF:=xb b5;have b6':=mq iH _ b6;have b7':=xh b7;have hu:=(ok.ti t _ hr).1;unfold jE at hs;split at hs;rotate_left
 ·cases hs
 rename_i re dV;have ai7:re.size=1:=xC hs;have wm:(∃e',P.underlying tx=some (.slice e'))∨P.underlying tx=some .string:=by
  unfold JX at b2;split at b2
  ·rename_i hr;exact .inl ⟨_,(ok.ti tx _ hr).1⟩
  ·rename_i hr;exact .inr (ok.ti tx _ hr).1
  ·cases b2
 have hq:dw β.d nd:=ok.q _ _ (inv.fw nd (by rw[ht];exact xn));unfold dw at hq;rw[Vj] at hq;obtain⟨ds,dd,q1,q2,q3⟩:=hq;rw[b4'] at q1;rw[jd] at q2;obtain⟨di,ds1,rfl,e1,q4⟩:=kw q1;obtain⟨dx,NZ,rfl,e2,e3⟩:=kw q4;have i2:=inv.pop (r:=r) (fun x hx=>by rw[ht];exact xo _ hx);cases hd with
 |part _ _ _ m l _ k hl hi hm=>
  rw[zX hi] at e1;cases e1;have cw:Qq n (.int k (.ofNat m)) dx NZ=some dd:=q3;unfold Qq at cw;split at cw;rotate_left
  ·cases cw
  rename_i k0 m0 rows jt;injection jt with _ kq;injection kq with kq;subst kq;split at cw;rotate_left
  ·cases cw
  rename_i GL;obtain⟨fE,ND,ju⟩:=GL;cases cw;obtain⟨dl0,di8,di7⟩:=xp.1 (show(aW (gp β.d) (v::de)).map D.agg=_ from q2);cases di7;obtain⟨dcn,DL,C4,r1,r2⟩:=kw di8;obtain⟨di9,aI7⟩:=List.cons.inj C4;subst di9;have eC:=gL e2 hx;generalize MB:min rows.length (n - m)=gY at*;have uC:gY≤rows.length:=by omega
  obtain⟨aF,x2,ot,Bn⟩:=bi0 (P:=P) eC gY uC;have LA:(rows.take gY).all (fun r=>r.length==1&&r.all D.cell)=true:=by
   rw[List.all_eq_true] at fE⊢;exact fun row hr=>fE row (List.mem_of_mem_take hr)
  have aG7:∀row∈rows.take (n - m),row.length=1:=fun row hr=>by
   have:=(List.all_eq_true.1 fE) row (List.mem_of_mem_take hr);simp only [xf,beq_iff_eq] at this;exact this.1
  have mP:rows.take (n - m)=rows.take gY:=by
   rw[←MB];rcases Nat.le_total rows.length (n - m) with h|h
   ·rw[List.take_of_length_le h,Nat.min_eq_left h,List.take_length]
   ·rw[Nat.min_eq_right h]
  rw[mP] at aG7 aI7;obtain⟨NX,Ve⟩:=RW aG7;obtain⟨src,tX,fX,bE2⟩:=Yq (P:=P) inv.bH (es:=1) wm (xk _) (d:= .sl (rows.take gY)) (rows:=rows.take gY) (show(if(rows.take gY).all (fun r=>r.length==1&&r.all D.cell)=true then some (rows.take gY) else none)=_ by rw[if_pos LA]) ot;have HY:(rows.take gY).length=gY:=by rw[xz];omega
  rw[HY,Nat.mul_one] at fX;rw[HY] at NX;have rP:=tX.cells;rw[HY] at rP;obtain⟨aE,e0,fz,k1,k2,k3,k4,k5,k6,k7⟩:=inv.cont B _ l hg hl;have kN:fz=(0,0):=k5 rfl;subst kN;obtain⟨rj,gz⟩:=BY _ _ _ o8;rw[B0] at rj gz;rw[List.length_drop] at gz;have hcm:m+gY≤n:=by omega
  have jV:n=0∨off+n≤cs.length:=by omega
  have cn2:∀j,j<n→ei[j]? =cs[off+j]? :=fun j hj=>by
   rw[rj,List.getElem?_take,if_pos hj,List.getElem?_drop]
  let F:=(List.range n).map fun i=>if m≤i∧i<m+gY then src.getD (i - m) undef else aE.getD (l.d+off+i) undef
  have hF:∀i,i<n→F[i]? =some (if m≤i∧i<m+gY then src.getD (i - m) undef else aE.getD (l.d+off+i) undef):=fun i hi=>by
   show((List.range n).map _)[i]? =_;rw[xx,List.getElem?_range hi];rfl
  have Ij:F.length=n:=by simp[F]
  have oe:∀i d,i<n→NZ[i]? =some d→∃v,aE[l.d+off+i]? =some v∧Rd β.z d v:=fun i d hi hd=>by
   have eY:i<ei.length:=by rw[rj,xz,List.length_drop];omega
   have nN:off+i<cs.length:=by omega
   obtain⟨v',h1,h2⟩:=k4 (off+i) _ (xc nN);refine⟨v',by rw[Nat.add_assoc];exact h1,gL (jZ e3 hd (xc eY)) ?_⟩;have h4:=cn2 i hi;rw[xc eY,xc nN] at h4;rw[xC h4];exact h2
  have hDL:∀i d,i<n→DL[i]? =some d→∃v,F[i]? =some v∧Rd β.z d v:=fun i d hi hd=>by
   rw[hF i hi];have nQ:(NZ.take m++(rows.take gY).flatten++NZ.drop (m+gY))[i]? =some d:=by
    rw[aI7];exact hd
   refine⟨_,rfl,?_⟩;by_cases h1:i<m
   ·rw[if_neg (by omega)];rw[List.append_assoc,xw (by rw[xz];omega),List.getElem?_take,if_pos h1] at nQ;obtain⟨v,h2,h3⟩:=oe i d hi nQ;rw[Array.getD_eq_getD_getElem?,h2];exact h3
   ·by_cases h2:i<m+gY
    ·rw[if_pos ⟨by omega,h2⟩];rw[List.append_assoc,xq (by rw[xz];omega),xz,Nat.min_eq_left (by omega),xw (by rw[NX];omega)] at nQ;obtain⟨row,h3,h4⟩:=Ve _ _ nQ;obtain⟨v,h5,h6⟩:=bE2 _ row 0 d h3 h4;rw[Nat.mul_one,Nat.add_zero] at h5;rw[List.getD_eq_getElem?_getD,h5];exact h6
    ·rw[if_neg (by omega)];rw[xq (by rw[xa,NX,xz];omega),xa,NX,xz,Nat.min_eq_left (by omega),List.getElem?_drop,show m+gY+(i - (m+gY))=i by omega] at nQ;obtain⟨v,h2,h3⟩:=oe i d hi nQ;rw[Array.getD_eq_getD_getElem?,h2];exact h3
  have dH0:DL.length=n:=by rw[kT r2,EF]
  have aG5:∀i u,de[i]? =some u→∃v,F[i]? =some v∧ai β u v∧v.oneCell'=true:=fun i u UE=>by
   have oB:=(xe.1 UE).1;rw[EF] at oB;have hdi:DL[i]? =some DL[i]:=xc (by omega);obtain⟨v,h1,h2⟩:=hDL i _ oB hdi;obtain⟨c,rfl⟩:=Wx (b6' u (xu UE));have h3:=jZ r2 hdi UE;obtain⟨h4,h5⟩:=oJ (show ji β.d (.chan (some (c+1)))=_ from h3);exact⟨v,h1,.sym c _ v h4 h5 h2,(EY h2 h5).2⟩
  have gR:aT β de F:=⟨by rw[EF,Ij],fun i u v h1 h2=>by
   obtain⟨v',h3,h4,_⟩:=aG5 i u h1;rw[h2] at h3;cases h3;exact h4⟩
  have qL:∀v∈F,v.oneCell'=true:=fun v hv=>by
   obtain⟨i,hi,rfl⟩:=List.getElem_of_mem hv;have eY:i<de.length:=by rw[EF,←Ij];exact hi
   obtain⟨v',h3,_,h5⟩:=aG5 i _ (xc eY);rw[xc hi] at h3;cases h3;exact h5
  rcases xI n with mQ|mQ
  ·
   have hc0:gY=0:=by omega
   have cn6:de=[]:=xA (by rw[EF,mQ]);have cm4:src=[]:=xA (by rw[fX,hc0]);have bU:Inv w0 E.G β ((A.pop r).put B (some ⟨.cells (jA de off cs),es,ex,false,y4⟩)) w:=by
    rw[cn6];refine i2.write B l _ _ (show(A.pop r).get B=_ from hg) hl b7' ⟨rfl,rfl,rfl,xk _,fun _ _ _=>rfl⟩ rfl ?_;rw[k1];exact⟨aE,e0,(0,0),rfl,k2,k3,k4,fun _=>rfl,k6,k7⟩
   refine⟨⟨β,.int .i64 (gY:Nat),w,?_,ET r1 (.int _ _),bU,ah.ca _ _⟩,xk _⟩;rw[cm4] at rP;rw[Bn.symm] at rP;have yT:Nat.min rows.length (n - m)=gY:=MB;simp[Builtin.copy_,run_underlying hu,aF,yT,dD ok dV,ai7,rP,goInt,storeCells]
  ·have df7:off+n≤cs.length:=by omega
   obtain⟨w',aM,bU⟩:=EQ (P:=P) (E:=E) i2 (show(A.pop r).get B=_ from hg) b7' hl gR (by rw[EF];exact df7) qL;have cn0:∀u∈src,u.oneCell'=true:=tX.one;have aG6:=run_storeCells_at (P:=P) l.b (l.d+off) e0 F 0 aE w k1 (by rw[Ij];omega) qL;have qJ:=run_storeCells_at (P:=P) l.b (l.d+off+m) e0 src 0 aE w k1 (by rw[fX];omega) cn0;rw[Nat.add_zero] at aG6 qJ;have RS:(aE.toList.take (l.d+off)++F++aE.toList.drop (l.d+off+F.length)).toArray=(aE.toList.take (l.d+off+m)++src++aE.toList.drop (l.d+off+m+src.length)).toArray:=by
    apply Array.ext_getElem?;intro i;rw[zL _ _ _ (by rw[Ij];omega),zL _ _ _ (by rw[fX];omega),Ij,fX];by_cases h1:l.d+off≤i∧i<l.d+off+n
    ·rw[if_pos h1,hF _ (by omega)];by_cases h2:l.d+off+m≤i∧i<l.d+off+m+gY
     ·rw[if_pos h2,if_pos (by omega)];rw[List.getD_eq_getElem?_getD];have:i - (l.d+off) - m=i - (l.d+off+m):=by omega
      rw[this];have aX:i - (l.d+off+m)<src.length:=by omega
      rw[xc aX];rfl
     ·rw[if_neg h2,if_neg (by omega),Array.getD_eq_getD_getElem?];have:l.d+off+(i - (l.d+off))=i:=by omega
      rw[this];have aX:i<aE.size:=by omega
      rw[Array.getElem?_eq_getElem aX];rfl
    ·rw[if_neg h1,if_neg (by omega)]
   rw[aG6] at aM;rw[RS] at aM;rw[aM] at qJ;refine⟨⟨β,.int .i64 (gY:Nat),w',?_,ET r1 (.int _ _),bU,ah.ca _ _⟩,xk _⟩;rw[Bn.symm] at rP;have yT:Nat.min rows.length (n - m)=gY:=MB;simp[Builtin.copy_,run_underlying hu,aF,yT,dD ok dV,ai7,rP,goInt,qJ]
end
inductive cL where
 |fn (f:FuncId)
 |rd (L:Nat)
 |dy (v:xM)
inductive R where
 |fail
 |val (v:xM) (A:AW)
 |call (f:cL) (args:List xM)
 |nd (l:List (xM×AW))
def dT(A:AW)(x:Option xM):R:=match x with|some v=> .val v A|none=> .fail
def dR(x:Option (xM×AW)):R:=match x with|some (v,A)=> .val v A|none=> .fail
def nH(x:Option AW):R:=match x with|some A=> .val undef A|none=> .fail
def HL(x:Option (List (xM×AW))):R:=match x with|some l=> .nd l|none=> .fail
def L9(x:xM):Option xM:=
 match x with
 | .pointer (some a)=>some (.pointer (some a))
 | .func (.func f) p q=>some (.func (.func f) p q)
 | .map (some b)=>some (.map (some b))
 | .iface B (.agg l)=>some (.iface B (.agg l))
 |_=>none
def J4(c a b:xM):Option xM:=match c with| .bool t=>some (bs t a b)|_=>none
def Nt(l:List UInt8)(c:Nat):Int:=
 List.rec (motive:=fun _=>Int) (.negSucc 0) (fun b _ ih=>bs (Nat.beq b.toNat c) (.ofNat 0) (Int.rec (motive:=fun _=>Int) (fun n=> .ofNat (Nat.add n 1)) (fun n=> .negSucc n) ih)) l
theorem YR(c:Nat)(hc:c<256):∀l:List UInt8,Nt l c=Lib.indexByte l c.toUInt8
 |[]=>rfl
 |b::l=>by
  have ih:=YR c hc l;show bs (Nat.beq b.toNat c) (.ofNat 0) (Int.rec (motive:=fun _=>Int) (fun n=> .ofNat (Nat.add n 1)) (fun n=> .negSucc n) (Nt l c))=_;unfold Lib.indexByte;have hb:(b==c.toUInt8)=Nat.beq b.toNat c:=by
   rw[l4,Bool.eq_iff_iff,beq_iff_eq,decide_eq_true_iff];constructor
   ·rintro rfl;simp[Nat.mod_eq_of_lt hc]
   ·intro h;apply UInt8.toNat.inj;simp[h,Nat.mod_eq_of_lt hc]
  rw[hb,ih];cases Nat.beq b.toNat c with
  |true=>rfl
  |false=>
   rw[gC,if_neg (by simp)];have dX:=Lib.indexByte_ge l c.toUInt8;cases hx:Lib.indexByte l c.toUInt8 with
   |ofNat n=>
    rw[if_neg (by simp)];rfl
   |negSucc n=>
    rw[hx] at dX;have:n=0:=by omega
    subst this;rfl
def neV(E:av)(g:FuncId)(p args q:List xM):Option xM:=
 match p,args,q with
 |[],[x],[]=>bs (uk g E.ne) (some x) none
 |[],[.string ⟨⟨l⟩⟩,.int .u8 (.ofNat c)],[]=>bs (uk g E.ib&&Nat.blt c 256) (some (.int .i64 (Nt l c))) none
 |_,_,_=>none
def aD5(E:av)(A:AW)(g:FuncId)(p args q:List xM):Option (xM×AW):=
 match p,args,q with
 |[],[.int .i64 (.ofNat n)],[]=>match Nj g E.mz with
  |some t=>match E.ti.get none t with
   |some ⟨.slice e,_,_,_,_⟩=>bs (Nat.ble n 281474976710656) (some (.slice (some ⟨A.next,0,none⟩) n n,A.add ⟨.cells (qG (fun _=>J) n []),1,false,false,e⟩)) none
   |_=>none
  |none=>none
 |_,_,_=>none
def yI(E:av)(A:AW)(f:xM)(args:List xM):R:=
 match f with
 | .func (.func g) ⟨p⟩ ⟨q⟩=>match E.fn.get none g with
  |some ⟨_,_,_,_,_,_,_,_,some _,_,_,_,_,_,_,_⟩=> .call (.fn g) (aj (aj p args) q)
  |_=>match aD5 E A g p args q with
   |some r=> .val r.1 r.2
   |none=>dT A (neV E g p args q)
 | .func (.yield L) ⟨[]⟩ ⟨[]⟩=> .call (.rd L) args
 | .chan (some (c+1))=> .call (.dy (.chan (some (c+1)))) args
 |_=> .fail
def Db(E:av)(A:AW)(s d:xN)(x:xM):R:=
 match AA E s d x with
 |some v=> .val v A
 |none=>match QD E A s d x with
  |some v=> .val v A
  |none=>dR (CF E A s d x)
def B5(E:av)(A:AW)(b:Builtin)(tys:List xN)(vs:List xM):R:=
 match b,tys,vs with
 | .len,[t],[x]=>dT A (SB E A t x)
 | .append,[t,tx],[s,x]=>match Cj E A t tx s x with
  |some p=> .val p.1 p.2
  |none=>dR (FH E A t tx s x)
 | .copy,[t,tx],[s,x]=>dR (GW E A t tx s x)
 | .clear,[t],[x]=>dR (FC E A t x)
 | .cap,[t],[x]=>dT A (TP E A t x)
 | .max,_,l=>dT A (Dr true l)
 | .min,_,l=>dT A (Dr false l)
 | .unsafeSliceData,_,[x]=>dT A (P3 x)
 | .unsafeString,[t,_],[x,y]=>dR (FJ E A t x y)
 |_,_,_=> .fail
theorem BZ{α γ:Type}{f:α→γ}{l:List α}{x:γ}(h:ez f l=[x]):∃a,l=[a]∧f a=x:=by
 rw[kV] at h
 match l,h with
 |[a],h=>exact⟨a,rfl,by simpa using h⟩
theorem IW{α γ:Type}{f:α→γ}{l:List α}{x y:γ}(h:ez f l=[x,y]):∃a b,l=[a,b]∧f a=x∧f b=y:=by
 rw[kV] at h
 match l,h with
 |[a,b],h=>exact⟨a,b,rfl,by simpa using h⟩
def aC(E:av)(sq:List (Nat×List xO))(A:AW)(fr:Gt)(op:Op):R:=
 match op with
 | .move x=> .val (ev E fr x) A
 | .assign x=> .val (ev E fr x) A
 | .pick c a b=>dT A (J4 (ev E fr c) (ev E fr a) (ev E fr b))
 | .alloc t=>dR (yi E A t)
 | .box t x=>dR (yZ A t (ev E fr x))
 | .build t ⟨ps⟩=>dT A (JR E t (ez (fun p=>(p.1,ev E fr p.2)) ps))
 | .buildSlice t len ⟨ps⟩=>dR (wP E A t len (ez (fun p=>(p.1,ev E fr p.2)) ps))
 | .load t a=>dT A (yn E A t (ev E fr a))
 | .store t a x=>nH (yb E A t (ev E fr a) (ev E fr x))
 | .nilCheck x=>dT A (L9 (ev E fr x))
 | .binOp op t x y _=>dT A (ft E sq op t (ev E fr x) (ev E fr y))
 | .unOp op _ x=>dT A (Ba op (ev E fr x))
 | .convert s d x=>Db E A s d (ev E fr x)
 | .makeFunc (.func f) ⟨p⟩ ⟨q⟩=> .val (.func (.func f) ⟨ez (ev E fr) p⟩ ⟨ez (ev E fr) q⟩) A
 | .makeSlice t l c=>dR (wQ E A t (ev E fr l) (ev E fr c))
 | .slice t x lo hi mx=>dT A (JB E A t (ev E fr x) (lo.map (ev E fr)) (hi.map (ev E fr)) (mx.map (ev E fr)))
 | .fieldAddr t x f=>dT A (IG E t (ev E fr x) f)
 | .field t x f=>dT A (JM E t (ev E fr x) f)
 | .indexAddr t x i=>dT A (IF E t (ev E fr x) (ev E fr i))
 | .index t x i=>dT A (CA E t (ev E fr x) (ev E fr i))
 | .extract x i=>dT A (I3 (ev E fr x) i)
 | .call ⟨.value f,⟨args⟩,_⟩=>yI E A (ev E fr f) (ez (ev E fr) args)
 | .call ⟨.builtin b,⟨args⟩,⟨tys⟩⟩=>B5 E A b tys (ez (ev E fr) args)
 | .makeMap t r=>dR (Cy E A t (r.map (ev E fr)))
 | .lookup t x k b=>dT A (Jj E sq A t (ev E fr x) (ev E fr k) b)
 | .mapUpdate t m k x=>nH (yL E sq A t (ev E fr m) (ev E fr k) (ev E fr x))
 | .insert t m k x=>nH (yL E sq A t (ev E fr m) (ev E fr k) (ev E fr x))
 | .mapEntry t m k=>dR (CE E sq A t (ev E fr m) (ev E fr k))
 | .entryStore _ m s x=>nH (Ci E A (ev E fr m) (ev E fr s) (ev E fr x))
 | .range t x=>dR (Cr E A t (ev E fr x))
 | .next it false=>HL (J7 E A (ev E fr it))
 | .entry it=>dT A (JH A (ev E fr it))
 |_=> .fail
def ck7(E:av)(A:AW)(fr:Gt)(f:Fn)(p q:List Operand):R:=
 match f with
 | .func f=> .val (.func (.func f) ⟨ez (ev E fr) p⟩ ⟨ez (ev E fr) q⟩) A
 |_=> .fail
def Dc(E:av)(A:AW)(fr:Gt)(c:Call):R:=
 Call.rec (motive:=fun _=>av→AW→Gt→R) (fun ce args tys E A fr=>Callee.rec (motive:=fun _=>List Operand→List xN→av→AW→Gt→R)
  (fun f args _ E A fr=>yI E A (ev E fr f) (ez (ev E fr) args)) (fun _ _ _ _ _ _ _=> .fail) (fun b args tys E A fr=>B5 E A b tys (ez (ev E fr) args)) ce args.toList tys.toList E A fr) c E A fr
def D5(op:Op):av→List (Nat×List xO)→AW→Gt→R:=
 Op.rec (motive:=fun _=>av→List (Nat×List xO)→AW→Gt→R)
  (fun x E _ A fr=> .val (ev E fr x) A)
  (fun x E _ A fr=> .val (ev E fr x) A)
  (fun c a b E _ A fr=>dT A (J4 (ev E fr c) (ev E fr a) (ev E fr b)))
  (fun t E _ A _=>dR (yi E A t))
  (fun t x E _ A fr=>dR (yZ A t (ev E fr x)))
  (fun t ps E _ A fr=>dT A (JR E t (ez (fun p=>(p.1,ev E fr p.2)) ps.toList)))
  (fun t len ps E _ A fr=>dR (wP E A t len (ez (fun p=>(p.1,ev E fr p.2)) ps.toList)))
  (fun t m k x E sq A fr=>nH (yL E sq A t (ev E fr m) (ev E fr k) (ev E fr x)))
  (fun t a E _ A fr=>dT A (QU E A t (ev E fr a)))
  (fun t a x E _ A fr=>nH (yb E A t (ev E fr a) (ev E fr x)))
  (fun _ _ _ _ _=> .fail)
  (fun _ _ _ _ _=> .fail)
  (fun x E _ A fr=>dT A (L9 (ev E fr x)))
  (fun op t x y _ E sq A fr=>dT A (TT E sq op t (ev E fr x) (ev E fr y)))
  (fun op _ x E _ A fr=>dT A (Ba op (ev E fr x)))
  (fun s d x E _ A fr=>Db E A s d (ev E fr x))
  (fun _ _ _ _ _ _=> .fail)
  (fun _ _ _ _ _ _=> .fail)
  (fun f p q E _ A fr=>ck7 E A fr f p.toList q.toList)
  (fun t r E _ A fr=>dR (Cy E A t (r.map (ev E fr))))
  (fun _ _ _ _ _ _=> .fail)
  (fun t l c E _ A fr=>dR (wQ E A t (ev E fr l) (ev E fr c)))
  (fun t x lo hi mx E _ A fr=>dT A (JB E A t (ev E fr x) (lo.map (ev E fr)) (hi.map (ev E fr)) (mx.map (ev E fr))))
  (fun t x f E _ A fr=>dT A (IG E t (ev E fr x) f))
  (fun t x f E _ A fr=>dT A (JM E t (ev E fr x) f))
  (fun t x i E _ A fr=>dT A (IF E t (ev E fr x) (ev E fr i)))
  (fun t x i E _ A fr=>dT A (CA E t (ev E fr x) (ev E fr i)))
  (fun t x k b E sq A fr=>dT A (Jj E sq A t (ev E fr x) (ev E fr k) b))
  (fun t m k x E sq A fr=>nH (yL E sq A t (ev E fr m) (ev E fr k) (ev E fr x)))
  (fun t m k E sq A fr=>dR (CE E sq A t (ev E fr m) (ev E fr k)))
  (fun _ m s x E _ A fr=>nH (Ci E A (ev E fr m) (ev E fr s) (ev E fr x)))
  (fun t x E _ A fr=>dR (Cr E A t (ev E fr x)))
  (fun it b E _ A fr=>bs b .fail (HL (J7 E A (ev E fr it))))
  (fun it E _ A fr=>dT A (JH A (ev E fr it)))
  (fun _ _ _ _ _ _ _ _=> .fail)
  (fun x i E _ A fr=>dT A (I3 (ev E fr x) i))
  (fun c E _ A fr=>Dc E A fr c)
  (fun _ _ _ _ _=> .fail)
  (fun _ _ _ _ _=> .fail)
  (fun _ _ _ _ _=> .fail)
  (fun _ _ _ _ _ _=> .fail)
  (fun _ _ _ _ _ _ _=> .fail)
  (fun _ _ _ _ _ _=> .fail) op
theorem Fq(op:Op)(E:av)(sq:List (Nat×List xO))(A:AW)(fr:Gt):D5 op E sq A fr=aC E sq A fr op:=by
 cases op with
 |build t ps=>obtain⟨ps⟩:=ps;rfl
 |buildSlice t len ps=>obtain⟨ps⟩:=ps;rfl
 |load t a=>show dT A (QU E A t (ev E fr a))=_;rw[bj6];rfl
 |binOp op t x y ty=>show dT A (TT E sq op t (ev E fr x) (ev E fr y))=_;rw[bv6];rfl
 |makeFunc f p q=>obtain⟨p⟩:=p;obtain⟨q⟩:=q;cases f<;>rfl
 |next it b=>cases b<;>rfl
 |call c=>
  obtain⟨ce,⟨args⟩,⟨tys⟩⟩:=c;cases ce<;>rfl
 |_=>rfl
section
variable{P:Program}{E:av}(ok:E.Ok P){sq:List (Nat×List xO)}(aY:E.Seq P sq){w0 w:World}{β:ah}{A:AW}(inv:Inv w0 E.G β A w)
def z4(P:Program)(w0:World)(G:GP)(β:ah)(A:AW)(w:World)(s:Sem Next)(v:xM)(A':AW):Prop:=
 ∃ak v' w',(s.run P w= .ok (.value v') w'∨(s.run P w= .ok .skip w'∧v'=undef))∧ai ak v v'∧Inv w0 G ak A' w'∧β.grow ak A.next∧A.next≤A'.next
theorem tq{x:Option xM}{v:xM}{A':AW}(h:dT A x= .val v A'):x=some v∧A'=A:=by
 unfold dT at h;split at h<;>cases h
 exact⟨rfl,rfl⟩
theorem lS{x:Option (xM×AW)}{v:xM}{A':AW}(h:dR x= .val v A'):x=some (v,A'):=by
 unfold dR at h;split at h<;>cases h
 rfl
theorem zM{x:Option AW}{v:xM}{A':AW}(h:nH x= .val v A'):x=some A'∧v=undef:=by
 unfold nH at h;split at h<;>cases h
 exact⟨rfl,rfl⟩
include inv in
theorem mr{s:Sem xM}{x:Option xM}{v:xM}{A':AW}(h:dT A x= .val v A')(hs:x=some v→∃v',s.run P w= .ok v' w∧ai β v v'):z4 P w0 E.G β A w (do pure (.value (←s))) v A':=by
 obtain⟨h1,rfl⟩:=tq h;obtain⟨v',hr,hv⟩:=hs h1;exact⟨β,v',w,.inl (by simp[hr]),hv,inv,ah.ca _ _,xk _⟩
theorem pj{s:Sem xM}{x:Option (xM×AW)}{v:xM}{A':AW}(h:dR x= .val v A')(hn:x=some (v,A')→A.next≤A'.next)(hs:x=some (v,A')→g9 w0 E.G β A (s.run P w) v A'):z4 P w0 E.G β A w (do pure (.value (←s))) v A':=by
 have h1:=lS h;obtain⟨ak,v',w',hr,hv,hi,hg⟩:=hs h1;exact⟨ak,v',w',.inl (by simp[hr]),hv,hi,hg,hn h1⟩
theorem I6{n:Nat}{fr:Gt}{a:Act}(hf:bX β n fr a.tmps)(inv:Inv w0 E.G β A w):∀(ps:List (Nat×Operand)),DQ β (ez (fun p=>(p.1,ev E fr p.2)) ps) (ps.map fun p=>(p.1,a.eval p.2))
 |[]=>trivial
 |p::ps=>⟨rfl,ky inv hf p.2,I6 hf inv ps⟩
theorem xV{n:Nat}{fr:Gt}{a:Act}(hf:bX β n fr a.tmps)(inv:Inv w0 E.G β A w):∀(ps:List Operand),aT β (ez (ev E fr) ps) (ps.map a.eval)
 |[]=>aT.nil β
 |p::ps=>(xV hf inv ps).cons (ky inv hf p)
theorem I7{n:Nat}{fr:Gt}{a:Act}(hf:bX β n fr a.tmps)(inv:Inv w0 E.G β A w)(x:Option Operand):l6 β (x.map (ev E fr)) (x.map a.eval):=by
 cases x with
 |none=>trivial
 |some x=>exact ky inv hf x
theorem br1{c c' a a' b b' v:xM}(h:J4 c a b=some v)(hc:ai β c c')(ha:ai β a a')(hb:ai β b b')(w:World):∃t,c'= .bool t∧ai β v (if t then a' else b'):=by
 unfold J4 at h;split at h
 ·rename_i t;cases h;cases hc;refine⟨t,rfl,?_⟩;cases t
  ·exact hb
  ·exact ha
 ·cases h
theorem aX2{t:xN}{v:xM}{A':AW}(h:yi E A t=some (v,A')):A.next≤A'.next:=by
 unfold yi at h;split at h
 ·replace h:=aB h;rcases h with⟨_,h⟩|⟨_,h⟩<;>cases h
  exact Nat.le_succ _
 ·cases h
theorem bf1{t:xN}{x v:xM}{A':AW}(h:yZ A t x=some (v,A')):A.next≤A'.next:=by
 unfold yZ at h;split at h<;>cases h
 exact Nat.le_succ _
theorem aS5{t:xN}{n:Nat}{ps:List (Nat×xM)}{v:xM}{A':AW}(h:wP E A t n ps=some (v,A')):A.next≤A'.next:=by
 unfold wP at h;split at h
 ·split at h
  ·replace h:=aB h;rcases h with⟨_,h⟩|⟨_,h⟩
   ·split at h<;>cases h
    exact Nat.le_succ _
   ·cases h
  ·cases h
 ·cases h
theorem aS8{t:xN}{l c v:xM}{A':AW}(h:wQ E A t l c=some (v,A')):A.next≤A'.next:=by
 unfold wQ at h;split at h
 ·split at h
  ·replace h:=aB h;rcases h with⟨_,h⟩|⟨_,h⟩<;>cases h
   exact Nat.le_succ _
  ·cases h
 ·cases h
theorem aV1{t:xN}{a x:xM}{A':AW}(h:yb E A t a x=some A'):A.next≤A'.next:=by
 unfold yb at h;split at h
 ·split at h
  ·replace h:=aB h;rcases h with⟨_,h⟩|⟨_,h⟩<;>cases h
   exact xk _
  ·cases h
 ·cases h
theorem aU9{t tx:xN}{s x v:xM}{A':AW}(h:Cj E A t tx s x=some (v,A')):A.next≤A'.next:=by
 unfold Cj at h;split at h
 ·cases h
 split at h
 ·cases h
 split at h
 ·replace h:=aB h;rcases h with⟨_,h⟩|⟨_,h⟩
  ·cases h;exact xk _
  ·replace h:=aB h;rcases h with⟨_,h⟩|⟨_,h⟩<;>cases h
   exact Nat.le_succ _
 ·replace h:=aB h;rcases h with⟨_,h⟩|⟨_,h⟩
  ·cases h;exact xk _
  ·replace h:=aB h;rcases h with⟨_,h⟩|⟨_,h⟩
   ·cases h
   ·split at h
    ·replace h:=aB h;rcases h with⟨_,h⟩|⟨_,h⟩
     ·replace h:=aB h;rcases h with⟨_,h⟩|⟨_,h⟩
      ·replace h:=aB h;rcases h with⟨_,h⟩|⟨_,h⟩<;>cases h
       exact xk _
      ·split at h
       ·replace h:=aB h;rcases h with⟨_,h⟩|⟨_,h⟩
        ·replace h:=aB h;rcases h with⟨_,h⟩|⟨_,h⟩
         ·cases h;exact Nat.le_succ _
         ·replace h:=aB h;rcases h with⟨_,h⟩|⟨_,h⟩<;>cases h
          exact Nat.le_succ _
        ·cases h
       ·cases h
     ·cases h
    ·cases h
 ·cases h
include ok aY inv in
theorem QN{n:Nat}{fr:Gt}{a:Act}(hf:bX β n fr a.tmps){o:Oper}{v:xM}{A':AW}(h:aC E sq A fr o.op= .val v A'):z4 P w0 E.G β A w (execOp a.eval o) v A':=by
 obtain⟨dst,op,type,uj,after,guard⟩:=o;have E1:=ky (a:=a) inv hf;unfold aC at h;simp only at h;split at h
 ·cases h;exact⟨β,_,w,.inl rfl,E1 _,inv,ah.ca _ _,xk _⟩
 ·cases h;exact⟨β,_,w,.inl rfl,E1 _,inv,ah.ca _ _,xk _⟩
 ·rename_i c x y;obtain⟨h1,rfl⟩:=tq h;obtain⟨t,ht,hv⟩:=br1 h1 (E1 c) (E1 x) (E1 y) w;exact⟨β,_,w,.inl (by simp[execOp,ht,asBool]),hv,inv,ah.ca _ _,xk _⟩
 ·exact pj h aX2 (fun e=>bo2 ok inv e)
 ·rename_i t x;exact pj h bf1 (fun e=>bT8 inv e (E1 x))
 ·rename_i t ps;have:=mr (P:=P) (s:=Instr.build t (Array.map (fun(p:Nat×Operand)=>(p.1,a.eval p.2)) ⟨ps⟩)) inv h (fun e=>by
   have:=O9 ok e (I6 hf inv ps) w;simpa using this)
  exact this
 ·rename_i t len ps;have:=pj (P:=P) (w:=w) (β:=β) (A:=A) (E:=E) (w0:=w0) (s:=Instr.buildSlice t len (Array.map (fun(p:Nat×Operand)=>(p.1,a.eval p.2)) ⟨ps⟩)) h aS5 (fun e=>by
   have:=aT4 (P:=P) ok inv e (I6 hf inv ps);simpa using this)
  exact this
 ·rename_i t x;exact mr inv h (fun e=>XT ok inv e (E1 x))
 ·rename_i t x y;obtain⟨h1,rfl⟩:=zM h;obtain⟨w',hr,hi⟩:=bg8 ok inv h1 (E1 x) (E1 y);exact⟨β,undef,w',.inr ⟨by simp[execOp,hr],rfl⟩,ai.undef,hi,ah.ca _ _,aV1 h1⟩
 ·rename_i x;obtain⟨h1,rfl⟩:=tq h;have hx:=E1 x;generalize o9:a.eval x=xv at hx;refine⟨β,xv,w,.inl ?_,?_,inv,ah.ca _ _,xk _⟩
  ·unfold L9 at h1;split at h1
   ·rename_i q hq;rw[hq] at hx;cases hx;simp[execOp,o9]
   ·rename_i f p q hq;rw[hq] at hx;cases hx;simp[execOp,o9]
   ·rename_i q hq;rw[hq] at hx;cases hx;simp[execOp,o9]
   ·rename_i B l hq;rw[hq] at hx;cases hx;simp[execOp,o9]
   ·cases h1
  ·unfold L9 at h1;split at h1
   ·rename_i q hq;rw[hq] at hx;cases h1;exact hx
   ·rename_i f p q hq;rw[hq] at hx;cases h1;exact hx
   ·rename_i q hq;rw[hq] at hx;cases h1;exact hx
   ·rename_i B l hq;rw[hq] at hx;cases h1;exact hx
   ·cases h1
 ·rename_i BG t x y ty;have:=mr (P:=P) (s:=(do eqGuard BG t x y (a.eval x) (a.eval y);binOp BG t (a.eval x) (a.eval y))) inv h (fun e=>qc ok aY e (E1 x) (E1 y) x y w);exact this
 ·rename_i MX t x;exact mr inv h (fun e=>JV e (E1 x) P w)
 ·rename_i s d x;unfold Db at h;split at h
  ·rename_i v0 hc;cases h;obtain⟨v',hr,hv⟩:=PQ ok hc (E1 x) w;exact⟨β,v',w,.inl (by simp[execOp,hr]),hv,inv,ah.ca _ _,xk _⟩
  ·split at h
   ·rename_i v0 hc;cases h;obtain⟨v',hr,hv⟩:=bp1 ok inv hc (E1 x);exact⟨β,v',w,.inl (by simp[execOp,hr]),hv,inv,ah.ca _ _,xk _⟩
   ·exact pj h aX0 (fun e=>bn3 ok inv e (E1 x))
 ·rename_i f p q;cases h;refine⟨β,.func (.func f) (Array.map a.eval ⟨p⟩) (Array.map a.eval ⟨q⟩),w,.inl (by simp[execOp,Instr.makeFunc]),?_,inv,ah.ca _ _,xk _⟩;have:=ai.X5 (f:=f) (xV hf inv p) (xV hf inv q);simpa using this
 ·rename_i t x y;exact pj h aS8 (fun e=>aU0 ok inv e (E1 x) (E1 y))
 ·rename_i t x lo hi mx;exact mr inv h (fun e=>bh5 ok inv e (E1 x) (I7 hf inv lo) (I7 hf inv hi) (I7 hf inv mx))
 ·rename_i t x f;exact mr inv h (fun e=>aU5 ok e (E1 x) w)
 ·rename_i t x f;exact mr inv h (fun e=>bl4 ok e (E1 x) w)
 ·rename_i t x i;exact mr inv h (fun e=>aU2 ok e (E1 x) (E1 i) w)
 ·rename_i t x i;exact mr inv h (fun e=>B3 ok e (E1 x) (E1 i) w)
 ·rename_i x i;exact mr inv h (fun e=>aZ6 e (E1 x) P w)
 ·rename_i f args _;have bx:=E1 f;unfold yI at h;split at h
  ·rename_i g p q wA;rw[wA] at bx;split at h
   ·cases h
   ·split at h
    ·rename_i r hm;cases h;obtain⟨v0,A0⟩:=r;unfold aD5 at hm;split at hm
     ·rename_i n hx;split at hm
      ·rename_i t ht;split at hm
       ·rename_i e _ _ _ _ hr;replace hm:=aB hm;rcases hm with⟨hn,hm⟩|⟨_,hm⟩<;>cases hm
        have gH:=xh hn;obtain⟨x0,rfl,e1⟩:=BZ hx;have r1:=E1 x0;rw[e1] at r1;generalize gk:a.eval x0=gx at r1;cases r1;generalize o9:a.eval f=gv at bx;cases bx with
        |func _ _ p' _ q' hp hq h1 h2=>
         have o7:p'=[]:=xA hp.symm;have pS:q'=[]:=xA hq.symm;subst o7;subst pS;obtain⟨ps,H2⟩:=ok.mz g t (Pr ht);obtain⟨cs,aM,aR,_⟩:=Lib.run_makeNoZero (P:=P) w ps t e (ok.ti t _ hr).1 n gH;have eK:=H2 #[.int .i64 (.ofNat n)] w;rw[show(Int.ofNat n)=(n:Int) from rfl] at eK gk;obtain⟨g1,g2⟩:=(inv.drew (w.drawn+1+1)).new (l:=⟨w.heap.size,0,1,cs.size⟩) ⟨.cells (qG (fun _=>J) n []),1,false,false,e⟩ (.cells cs e) rfl
          ⟨cs,e,(0,0),rfl,rfl,by rw[x8,xj,xm,List.length_range];show 0+n≤cs.size;omega,(fun i v hv=>by
           rw[x8,xj,xx] at hv;obtain⟨j,hj,rfl⟩:=xp.1 hv;have hi:i<n:=by have:=(xe.1 hj).1;simpa using this
           exact⟨cs[i],by rw[Nat.zero_add];exact Array.getElem?_eq_getElem (by omega),.j9 _⟩),fun _=>rfl,(fun h=>by cases h),rfl,fun _=>rfl⟩
         refine⟨_,_,_,.inl ?_,ai.slice (β:=β.put A.next ⟨w.heap.size,0,1,cs.size⟩) A.next 0 n n cs.size ⟨w.heap.size,0,1,cs.size⟩ (jy _ _ _) (xk _) aR (by show 0+0+cs.size*1≤cs.size;omega),g1,g2,Nat.le_succ _⟩;simp[execOp,resolve,o9,gk,Deferred.ofValue,invoke,eK,aM];rfl
       ·cases hm
      ·cases hm
     ·cases hm
    rename_i ND;clear ND;obtain⟨h1,rfl⟩:=tq h;unfold neV at h1;split at h1
    ·rename_i x hx;replace h1:=aB h1;rcases h1 with⟨hb,h1⟩|⟨_,h1⟩
     ·cases h1;obtain⟨x0,rfl,rfl⟩:=BZ hx;generalize o9:a.eval f=gv at bx;cases bx with
      |func _ _ p' _ q' hp hq h1 h2=>
       have o7:p'=[]:=xA hp.symm;have pS:q'=[]:=xA hq.symm;subst o7;subst pS;refine⟨β,a.eval x0,w,.inl ?_,E1 x0,inv,ah.ca _ _,xk _⟩;have bq:=ok.ne g (E4 hb) (a.eval x0) w;simp[execOp,resolve,o9,Deferred.ofValue,invoke,bq]
     ·cases h1
    ·rename_i l c hx;replace h1:=aB h1;rcases h1 with⟨hb,h1⟩|⟨_,h1⟩
     ·cases h1;rw[xf] at hb;have hc:c<256:=xh hb.2;obtain⟨x0,y0,rfl,e1,e2⟩:=IW hx;have r1:=E1 x0;have r2:=E1 y0;rw[e1] at r1;rw[e2] at r2;generalize gk:a.eval x0=gx at r1;generalize hgy:a.eval y0=gy at r2;cases r1;cases r2;generalize o9:a.eval f=gv at bx;cases bx with
      |func _ _ p' _ q' hp hq h1 h2=>
       have o7:p'=[]:=xA hp.symm;have pS:q'=[]:=xA hq.symm;subst o7;subst pS;refine⟨β,.int .i64 (Nt l c),w,.inl ?_,.int _ _,inv,ah.ca _ _,xk _⟩;have NF:=ok.ib g (E4 hb.1) #[.string ⟨⟨l⟩⟩,.int .u8 (.ofNat c)] w;have aM:=Lib.run_indexByteString (P:=P) ⟨⟨l⟩⟩ (.ofNat c) w;rw[YR c hc];rw[show(Int.ofNat c)=(c:Int) from rfl] at NF aM;simp[execOp,resolve,o9,gk,hgy,Deferred.ofValue,invoke,NF,aM]
     ·cases h1
    ·cases h1
  ·cases h
  ·cases h
  ·cases h
 ·rename_i b args tys;unfold B5 at h;split at h
  ·rename_i t x hv;obtain⟨x0,rfl,rfl⟩:=BZ hv;have:=mr (P:=P) (s:=Builtin.len_ #[t] type #[a.eval x0]) inv h (fun e=>Qb ok inv e (E1 x0));simpa[execOp,resolve,invoke,builtin] using this
  ·rename_i t tx s x hv;obtain⟨s0,x0,rfl,rfl,rfl⟩:=IW hv;split at h
   ·rename_i p hp;have h:dR (Cj E A t tx (ev E fr s0) (ev E fr x0))= .val v A':=by rw[hp];exact h
    have:=pj (P:=P) (w:=w) (β:=β) (A:=A) (E:=E) (w0:=w0) (s:=Builtin.append_ #[t,tx] type #[a.eval s0,a.eval x0]) h aU9 (fun e=>bf4 ok inv e (E1 s0) (E1 x0));simpa[execOp,resolve,invoke,builtin] using this
   ·have:=pj (P:=P) (w:=w) (β:=β) (A:=A) (E:=E) (w0:=w0) (s:=Builtin.append_ #[t,tx] type #[a.eval s0,a.eval x0]) h aX3 (fun e=>bo6 ok inv e (E1 s0) (E1 x0));simpa[execOp,resolve,invoke,builtin] using this
  ·rename_i t tx s x hv;obtain⟨s0,x0,rfl,rfl,rfl⟩:=IW hv;have:=pj (P:=P) (w:=w) (β:=β) (A:=A) (E:=E) (w0:=w0) (s:=Builtin.copy_ #[t,tx] type #[a.eval s0,a.eval x0]) h ba1 (fun e=>PP ok inv e (E1 s0) (E1 x0));simpa[execOp,resolve,invoke,builtin] using this
  ·rename_i t x hv;obtain⟨x0,rfl,rfl⟩:=BZ hv;have:=pj (P:=P) (w:=w) (β:=β) (A:=A) (E:=E) (w0:=w0) (s:=Builtin.clear_ #[t] type #[a.eval x0]) h aW7 (fun e=>bm5 ok inv e (E1 x0));simpa[execOp,resolve,invoke,builtin] using this
  ·rename_i t x hv;obtain⟨x0,rfl,rfl⟩:=BZ hv;have:=mr (P:=P) (s:=Builtin.cap_ #[t] type #[a.eval x0]) inv h (fun e=>bR6 ok inv e (E1 x0));simpa[execOp,resolve,invoke,builtin] using this
  ·have:=fun ts:Array xN=>mr (P:=P) (s:=Builtin.max_ ts type ⟨args.map a.eval⟩) inv h (fun e=>⟨v,bD2 e (xV hf inv args)⟩)
   simpa[execOp,resolve,invoke,builtin] using this _
  ·have:=fun ts:Array xN=>mr (P:=P) (s:=Builtin.min_ ts type ⟨args.map a.eval⟩) inv h (fun e=>⟨v,bD1 e (xV hf inv args)⟩)
   simpa[execOp,resolve,invoke,builtin] using this _
  ·rename_i x hv;obtain⟨x0,rfl,rfl⟩:=BZ hv;have:=fun ts:Array xN=>mr (P:=P) (s:=Builtin.unsafeSliceData_ ts type #[a.eval x0]) inv h (fun e=>bh7 e (E1 x0))
   simpa[execOp,resolve,invoke,builtin] using this _
  ·rename_i t t2 x y hv;obtain⟨x0,y0,rfl,rfl,rfl⟩:=IW hv;have:=pj (P:=P) (w:=w) (β:=β) (A:=A) (E:=E) (w0:=w0) (s:=Builtin.unsafeString_ #[t,t2] type #[a.eval x0,a.eval y0]) h aX4 (fun e=>bp0 ok inv e (E1 x0) (E1 y0));simpa[execOp,resolve,invoke,builtin] using this
  ·cases h
 ·rename_i t r;exact pj h aV6 (fun e=>bj3 ok inv e (I7 hf inv r))
 ·rename_i t x k b;exact mr inv h (fun e=>bc3 ok aY inv e (E1 x) (E1 k))
 ·rename_i t m k x;obtain⟨h1,rfl⟩:=zM h;obtain⟨w',hr,hi⟩:=Yn ok aY inv h1 (E1 m) (E1 k) (E1 x);exact⟨β,undef,w',.inr ⟨by simp[execOp,hr],rfl⟩,ai.undef,hi,ah.ca _ _,Wa h1⟩
 ·rename_i t m k x;obtain⟨h1,rfl⟩:=zM h;obtain⟨w',hr,hi⟩:=Yn ok aY inv h1 (E1 m) (E1 k) (E1 x);exact⟨β,undef,w',.inr ⟨by simp[execOp,hr],rfl⟩,ai.undef,hi,ah.ca _ _,Wa h1⟩
 ·rename_i t m k;exact pj h aW2 (fun e=>bl6 ok aY inv e (E1 m) (E1 k))
 ·rename_i t m s x;obtain⟨h1,rfl⟩:=zM h;obtain⟨w',hr,hi⟩:=bd9 (P:=P) (t:=t) inv h1 (E1 m) (E1 s) (E1 x);exact⟨β,undef,w',.inr ⟨by simp[execOp,hr],rfl⟩,ai.undef,hi,ah.ca _ _,aU6 h1⟩
 ·rename_i t x;exact pj h aV4 (fun e=>bi1 ok inv e (E1 x))
 ·unfold HL at h;split at h<;>cases h
 ·rename_i it;exact mr inv h (fun e=>bk2 inv e (E1 it))
 ·cases h
def QB(P:Program)(β:ah)(w:World)(s:Sem Next)(args':List xM):cL→Prop
 | .fn f=>s.run P w= .ok (.enter f ⟨args'⟩) w
 | .rd L=>∃l,β L=some l∧s.run P w=(Instr.yield l.b ⟨args'⟩).run P w
 | .dy v=>∃f',ai β v f'∧∀g p q fn c,f'= .func (.func g) ⟨p⟩ ⟨q⟩→P.funcs[g]? =some fn→fn.body=some c→ ¬fn.name= "runtime.NumGoroutine"→s.run P w= .ok (.enter g ⟨p++args'++q⟩) w
include ok inv in
theorem br7{n:Nat}{fr:Gt}{a:Act}(hf:bX β n fr a.tmps){o:Oper}{f:cL}{args:List xM}(h:aC E sq A fr o.op= .call f args):
 ∃args',aT β args args'∧QB P β w (execOp a.eval o) args' f:=by
 obtain⟨dst,op,type,uj,after,guard⟩:=o;have E1:=ky (a:=a) inv hf;unfold aC at h;simp only at h;split at h
 case h_22=>
  rename_i g as _;have hg:=E1 g;unfold yI at h;split at h
  ·rename_i Iq p q wA;split at h
   ·rename_i nm Up ta ps rt nf nt rs bd nr ou fi el ln me tn nP;cases h;rw[wA] at hg;obtain⟨Dy,Av⟩:=ok.fn Iq _ nP;generalize o9:a.eval g=gv at hg;cases hg with
    |func _ _ p' _ q' hp hq h1 h2=>
     refine⟨p'++as.map a.eval++q',?_,?_⟩
     ·rw[iN,iN];exact(aT.append ⟨hp,h1⟩ (xV hf inv as)).append ⟨hq,h2⟩
     ·have Qf: ¬nm= "runtime.NumGoroutine":=by simpa using Av
      simp[QB,execOp,resolve,o9,Deferred.ofValue,invoke,callFunc,program,Sem.run,Dy,Qf]
   ·split at h
    ·cases h
    ·unfold dT at h;split at h<;>cases h
  ·rename_i L wA;cases h;rw[wA] at hg;generalize o9:a.eval g=gv at hg;cases hg with
   |yield _ l hl=>
    refine⟨as.map a.eval,xV hf inv as,l,hl,?_⟩;simp[execOp,resolve,o9,Deferred.ofValue,invoke]
  ·rename_i c wA;cases h;rw[wA] at hg;refine⟨as.map a.eval,xV hf inv as,_,hg,fun Iq p q fn cd hfv nP hb ia=> ?_⟩;obtain⟨f1,f2,f3,f4,f5,f6,f7,f8,f9,f10,f11,f12,f13,f14,f15,f16⟩:=fn;simp only at hb ia;subst hb;simp[execOp,resolve,hfv,Deferred.ofValue,invoke,callFunc,program,Sem.run,nP,ia]
  ·cases h
 case h_23=>
  unfold B5 at h;split at h
  all_goals first
   |cases h
   |(unfold dT at h;split at h<;>cases h)
   |(unfold dR at h;split at h<;>cases h)
   |(split at h
     ·cases h
     ·unfold dR at h;split at h<;>cases h)
 all_goals first
  |cases h
  |(unfold dT at h;split at h<;>cases h)
  |(unfold dR at h;split at h<;>cases h)
  |(unfold nH at h;split at h<;>cases h)
  |(unfold HL at h;split at h<;>cases h)
  |(unfold Db at h
    split at h
    ·cases h
    ·split at h
     ·cases h
     ·unfold dR at h;split at h<;>cases h)
include inv in
theorem cf4{n:Nat}{fr:Gt}{a:Act}(hf:bX β n fr a.tmps){o:Oper}{l:List (xM×AW)}(h:aC E sq A fr o.op= .nd l):
 ∃p∈l,z4 P w0 E.G β A w (execOp a.eval o) p.1 p.2:=by
 obtain⟨dst,op,type,uj,after,guard⟩:=o;have E1:=ky (a:=a) inv hf;unfold aC at h;simp only at h;split at h
 case h_31=>
  rename_i it;unfold HL at h;split at h
  ·rename_i l2 hn;cases h;obtain⟨p,hp,⟨ak,v',w',hr,hv,hi,hg⟩,aR⟩:=Pq (P:=P) (ty:=type) inv hn (E1 it);exact⟨p,hp,ak,v',w',.inl (by simp[execOp,hr]),hv,hi,hg,aR⟩
  ·cases h
 case h_22=>
  unfold yI at h;split at h
  ·split at h
   ·cases h
   ·split at h
    ·cases h
    ·unfold dT at h;split at h<;>cases h
  ·cases h
  ·cases h
  ·cases h
 case h_23=>
  unfold B5 at h;split at h
  all_goals first
   |cases h
   |(unfold dT at h;split at h<;>cases h)
   |(unfold dR at h;split at h<;>cases h)
   |(split at h
     ·cases h
     ·unfold dR at h;split at h<;>cases h)
 all_goals first
  |cases h
  |(unfold dT at h;split at h<;>cases h)
  |(unfold dR at h;split at h<;>cases h)
  |(unfold nH at h;split at h<;>cases h)
  |(unfold Db at h
    split at h
    ·cases h
    ·split at h
     ·cases h
     ·unfold dR at h;split at h<;>cases h)
end
def vB(E:av)(sq:List (Nat×List xO))(A:AW)(fr:Gt)(op:Op):R:=
 match A.tape with
 |[]=> .fail
 |nd::r=>match n5 E sq A fr op nd with
  |some v=> .val v (A.pop r)
  |none=> .fail
def orR(r:R):R→R:=R.rec (motive:=fun _=>R→R) (fun s=>s) (fun v A _=> .val v A) (fun f a _=> .call f a) (fun l _=> .nd l) r
def qF(E:av)(A:AW)(fr:Gt)(op:Op):R:=
 match op with
 | .call ⟨.builtin .append,⟨[s,x]⟩,⟨[t,tx]⟩⟩=>dR (TV E A t tx (ev E fr s) (ev E fr x))
 | .store t a x=>nH (PZ E A t (ev E fr a) (ev E fr x))
 | .makeSlice t l c=>dR (Ur E A t (ev E fr l) (ev E fr c))
 | .convert s d x=>dR (Qv E A s d (ev E fr x))
 | .call ⟨.builtin .unsafeSliceData,⟨[x]⟩,_⟩=>dR (P4 A (ev E fr x))
 | .call ⟨.builtin .unsafeString,⟨[x,y]⟩,⟨[t,_]⟩⟩=>dR (QC E A t (ev E fr x) (ev E fr y))
 | .slice t x lo hi none=>dR (P1 E A t (ev E fr x) (qW E fr lo) (sQ E fr hi))
 | .call ⟨.builtin .copy,⟨[d,x]⟩,⟨[t,tx]⟩⟩=>dR (R0 E A t tx (ev E fr d) (ev E fr x))
 | .call ⟨.value f,⟨[x]⟩,_⟩=>dR (Sz E A (ev E fr f) (ev E fr x))
 | .makeMap _ none=> .val (JF A).1 (JF A).2
 | .mapUpdate t m k x=>nH (R8 E A t (ev E fr m) (ev E fr k) (ev E fr x))
 |_=> .fail
def mark(A:AW):Option AW:=
 match A.tape with
 |[]=>none
 |nd::r=>match nd.k with
  | .own 0=>some (A.pop r)
  |_=>none
def bD9(v:xM):Bool:=match v with| .slice none 0 0=>true| .iface _ _=>true|_=>false
def J6(E:av)(fr:Gt)(op:Op):Bool:=match op with| .call ⟨.builtin .append,⟨[x,_]⟩,_⟩=>bD9 (ev E fr x)| .makeMap _ none=>true|_=>false
def iY(E:av)(sq:List (Nat×List xO))(A:AW)(fr:Gt)(op:Op):R:=
 match bs (J6 E fr op) (mark A) none with
 |some A1=>qF E A1 fr op
 |none=>orR (D5 op E sq A fr) (orR (vB E sq A fr op) (qF E A fr op))
theorem OE(E:av)(sq:List (Nat×List xO))(A:AW)(fr:Gt)(op:Op):(iY E sq A fr op=aC E sq A fr op∧aC E sq A fr op≠ .fail)∨iY E sq A fr op=vB E sq A fr op∨iY E sq A fr op=qF E A fr op∨∃nd r,A.tape=nd::r∧iY E sq A fr op=qF E (A.pop r) fr op:=by
 unfold iY;split
 ·rename_i A1 hm;replace hm:mark A=some A1:=(aB hm).elim (fun h=>h.2) (fun h=>by cases h.2);unfold mark at hm;split at hm
  ·cases hm
  ·rename_i nd r ht;split at hm
   ·cases hm;exact .inr (.inr (.inr ⟨nd,r,ht,rfl⟩))
   ·cases hm
 ·rw[Fq];cases h:aC E sq A fr op with
  |fail=>
   cases h2:vB E sq A fr op with
   |fail=>exact .inr (.inr (.inl rfl))
   |_=>exact .inr (.inl rfl)
  |_=>exact .inl ⟨rfl,by simp⟩
theorem OO{E:av}{sq:List (Nat×List xO)}{A:AW}{fr:Gt}{op:Op}{r:R}(h:vB E sq A fr op=r)(hr:r≠ .fail):∃nd l v,A.tape=nd::l∧n5 E sq A fr op nd=some v∧r= .val v (A.pop l):=by
 unfold vB at h;split at h
 ·exact absurd h.symm hr
 ·rename_i nd l ht;split at h
  ·rename_i v hv;exact⟨nd,l,v,ht,hv,h.symm⟩
  ·exact absurd h.symm hr
theorem aX6{E:av}{sq:List (Nat×List xO)}{A:AW}{g g':Gt}{op:Op}(h:∀nd,n5 E sq A g op nd=n5 E sq A g' op nd):vB E sq A g op=vB E sq A g' op:=by
 unfold vB;split
 ·rfl
 ·rw[h]
theorem IS{E:av}{A:AW}{fr:Gt}{op:Op}:(∀f args,qF E A fr op≠ .call f args)∧∀l,qF E A fr op≠ .nd l:=by
 unfold qF;split
 ·unfold dR;split<;>exact⟨(fun _ _ h=>by cases h),(fun _ h=>by cases h)⟩
 ·unfold nH;split<;>exact⟨(fun _ _ h=>by cases h),(fun _ h=>by cases h)⟩
 ·unfold dR;split<;>exact⟨(fun _ _ h=>by cases h),(fun _ h=>by cases h)⟩
 ·unfold dR;split<;>exact⟨(fun _ _ h=>by cases h),(fun _ h=>by cases h)⟩
 ·unfold dR;split<;>exact⟨(fun _ _ h=>by cases h),(fun _ h=>by cases h)⟩
 ·unfold dR;split<;>exact⟨(fun _ _ h=>by cases h),(fun _ h=>by cases h)⟩
 ·unfold dR;split<;>exact⟨(fun _ _ h=>by cases h),(fun _ h=>by cases h)⟩
 ·unfold dR;split<;>exact⟨(fun _ _ h=>by cases h),(fun _ h=>by cases h)⟩
 ·unfold dR;split<;>exact⟨(fun _ _ h=>by cases h),(fun _ h=>by cases h)⟩
 ·exact⟨(fun _ _ h=>by cases h),(fun _ h=>by cases h)⟩
 ·unfold nH;split<;>exact⟨(fun _ _ h=>by cases h),(fun _ h=>by cases h)⟩
 ·exact⟨(fun _ _ h=>by cases h),(fun _ h=>by cases h)⟩
section
variable{P:Program}{E:av}(ok:E.Ok P){sq:List (Nat×List xO)}(aY:E.Seq P sq){w0 w:World}{β:ah}{A:AW}(inv:Inv w0 E.G β A w)
include ok inv in
theorem YC{n:Nat}{fr:Gt}{a:Act}(hf:bX β n fr a.tmps){o:Oper}{v:xM}{A':AW}(h:qF E A fr o.op= .val v A'):z4 P w0 E.G β A w (execOp a.eval o) v A':=by
 obtain⟨dst,op,type,uj,after,guard⟩:=o;have E1:=ky (a:=a) inv hf;unfold qF at h;simp only at h;split at h
 ·rename_i s x t tx;have h1:=lS h;obtain⟨⟨ak,v',w',hr,hv,hi,hg⟩,hn⟩:=bw1 (ty:=type) ok h1 inv (E1 s) (E1 x);exact⟨ak,v',w',.inl (by simp[execOp,resolve,invoke,builtin,hr]),hv,hi,hg,hn⟩
 ·rename_i t x y;obtain⟨h1,rfl⟩:=zM h;obtain⟨ak,w',hr,hi,hg,hn⟩:=bb3 ok h1 inv (E1 x) (E1 y);exact⟨ak,undef,w',.inr ⟨by simp[execOp,hr],rfl⟩,ai.undef,hi,hg,hn⟩
 ·rename_i t x y;have h1:=lS h;obtain⟨⟨ak,v',w',hr,hv,hi,hg⟩,hn⟩:=bj5 ok h1 inv (E1 x) (E1 y);exact⟨ak,v',w',.inl (by simp[execOp,hr]),hv,hi,hg,hn⟩
 ·rename_i s d x;have h1:=lS h;obtain⟨⟨ak,v',w',hr,hv,hi,hg⟩,hn⟩:=be9 ok h1 inv (E1 x);exact⟨ak,v',w',.inl (by simp[execOp,hr]),hv,hi,hg,hn⟩
 ·rename_i x ts;have h1:=lS h;obtain⟨⟨ak,v',w',hr,hv,hi,hg⟩,hn⟩:=bb9 (tys:=ts) (ty:=type) ok h1 inv (E1 x);exact⟨ak,v',w',.inl (by simp[execOp,resolve,invoke,builtin,hr]),hv,hi,hg,hn⟩
 ·rename_i x y t ti;have h1:=lS h;obtain⟨⟨ak,v',w',hr,hv,hi,hg⟩,hn⟩:=bg1 (it:=ti) (ty:=type) ok h1 inv (E1 x) (E1 y);exact⟨ak,v',w',.inl (by simp[execOp,resolve,invoke,builtin,hr]),hv,hi,hg,hn⟩
 ·rename_i t x lo hi;have h1:=lS h;obtain⟨ak,v',hr,hv,hi',hg,hn⟩:=bp9 ok hf h1 inv;exact⟨ak,v',w,.inl (by simp[execOp,hr]),hv,hi',hg,hn⟩
 ·rename_i d x t tx;have h1:=lS h;obtain⟨⟨ak,v',w',hr,hv,hi,hg⟩,hn⟩:=bm2 (ty:=type) ok h1 inv (E1 d) (E1 x);exact⟨ak,v',w',.inl (by simp[execOp,resolve,invoke,builtin,hr]),hv,hi,hg,hn⟩
 ·rename_i f x ts;have h1:=lS h;obtain⟨g,hgf,ak,v',w',hr,hv,hi,hg,hn⟩:=bs1 ok h1 inv (E1 f) (E1 x);exact⟨ak,v',w',.inl (by simp[execOp,resolve,hgf,Deferred.ofValue,invoke,hr]),hv,hi,hg,hn⟩
 ·cases h;rename_i t;obtain⟨ak,v',w',hr,hv,hi,hg⟩:=bc2 (P:=P) inv t;exact⟨ak,v',w',.inl (by simp[execOp,hr]),hv,hi,hg,Nat.le_succ _⟩
 ·rename_i t m k x;obtain⟨h1,rfl⟩:=zM h;obtain⟨w',hr,hi,hn⟩:=bp2 ok h1 inv (E1 m) (E1 k) (E1 x);exact⟨β,undef,w',.inr ⟨by simp[execOp,hr],rfl⟩,ai.undef,hi,ah.ca _ _,hn⟩
 ·cases h
include ok aY inv
theorem bC3{n:Nat}{fr:Gt}{a:Act}(hf:bX β n fr a.tmps){o:Oper}{v:xM}{A':AW}(h:iY E sq A fr o.op= .val v A'):z4 P w0 E.G β A w (execOp a.eval o) v A':=by
 rcases OE E sq A fr o.op with⟨h1,_⟩|h1|h1|⟨nd,r,ht,h1⟩
 ·exact QN ok aY inv hf (h1.symm.trans h)
 ·obtain⟨nd,l,v2,ht,hv,hr⟩:=OO (h1.symm.trans h) (by simp);cases hr;obtain⟨v',aM,fQ⟩:=Yo ok aY inv hf hv (ok.q _ _ (inv.fw nd (by rw[ht];exact xn)));exact⟨β,v',w,.inl aM,fQ,inv.pop (fun x hx=>by rw[ht];exact xo _ hx),ah.ca _ _,xk _⟩
 ·exact YC ok inv hf (h1.symm.trans h)
 ·have:=YC ok (inv.pop (r:=r) (fun x hx=>by rw[ht];exact xo _ hx)) hf (h1.symm.trans h);exact this
omit aY in
theorem bi8{n:Nat}{fr:Gt}{a:Act}(hf:bX β n fr a.tmps){o:Oper}{f:cL}{args:List xM}(h:iY E sq A fr o.op= .call f args):∃args',aT β args args'∧QB P β w (execOp a.eval o) args' f:=by
 rcases OE E sq A fr o.op with⟨h1,_⟩|h1|h1|⟨nd,r,ht,h1⟩
 ·exact br7 ok inv hf (h1.symm.trans h)
 ·obtain⟨nd,l,v2,ht,hv,hr⟩:=OO (h1.symm.trans h) (by simp);cases hr
 ·exact absurd (h1.symm.trans h) (IS.1 _ _)
 ·exact absurd (h1.symm.trans h) (IS.1 _ _)
omit ok aY in
theorem bC4{n:Nat}{fr:Gt}{a:Act}(hf:bX β n fr a.tmps){o:Oper}{l:List (xM×AW)}(h:iY E sq A fr o.op= .nd l):∃p∈l,z4 P w0 E.G β A w (execOp a.eval o) p.1 p.2:=by
 rcases OE E sq A fr o.op with⟨h1,_⟩|h1|h1|⟨nd,r,ht,h1⟩
 ·exact cf4 inv hf (h1.symm.trans h)
 ·obtain⟨nd,l,v2,ht,hv,hr⟩:=OO (h1.symm.trans h) (by simp);cases hr
 ·exact absurd (h1.symm.trans h) (IS.2 _)
 ·exact absurd (h1.symm.trans h) (IS.2 _)
end
def T.kB{α:Type}{ρ:Type}(t:T α):Nat→α→(T α→ρ)→ρ:=
 T.rec (motive:=fun _=>Nat→α→(T α→ρ)→ρ) (fun _ _ k=>k .nil)
  (fun l v r sl sr n x k=>Nat.rec (motive:=fun _=>ρ) (k (.node l x r)) (fun p _=>Nat.rec (motive:=fun _=>ρ) (sl (Nat.div p 2) x (fun l'=>k (.node l' v r))) (fun _ _=>sr (Nat.div p 2) x (fun r'=>k (.node l v r'))) (Nat.mod p 2)) n) t
theorem T.Jb{α ρ:Type}(t:T α):∀(n:Nat) (x:α) (k:T α→ρ),t.kB n x k=k (t.set n x):=by
 induction t with
 |nil=>intro n x k;rfl
 |node l v r hl hr=>
  intro n x k;cases n with
  |zero=>rfl
  |succ p=>
   show Nat.rec (motive:=fun _=>ρ) (l.kB (p/2) x (fun l'=>k (.node l' v r))) (fun _ _=>r.kB (p/2) x (fun r'=>k (.node l v r'))) (Nat.mod p 2)=
    k (Nat.rec (motive:=fun _=>T α) (.node (l.set (p/2) x) v r) (fun _ _=> .node l v (r.set (p/2) x)) (Nat.mod p 2))
   rw[hl,hr,lH,lH];split<;>rfl
def CC{ρ:Type}(n:Nat)(k:Nat→ρ):ρ:=Nat.rec (motive:=fun _=>ρ) (k 0) (fun p _=>k (Nat.succ p)) n
theorem IM{ρ:Type}(n:Nat)(k:Nat→ρ):CC n k=k n:=by cases n<;>rfl
def yg{ρ:Type}(v:xM)(k:xM→ρ):ρ:=
 CI (ρ:=(xM→ρ)→ρ) (fun b _ k=>bs b (k (.bool true)) (k (.bool false)))
  (fun kd n _ k=>Int.rec (motive:=fun _=>ρ) (fun m=>CC m (fun m=>k (.int kd (.ofNat m)))) (fun m=>CC m (fun m=>k (.int kd (.negSucc m)))) n)
  (fun _ v k=>k v) (fun _ v k=>k v) (fun _ _ _ v k=>k v) (fun _ v k=>k v) (fun v k=>k v) v v k
theorem EN{ρ:Type}(v:xM)(k:xM→ρ):yg v k=k v:=by
 cases v with
 |bool b=>cases b<;>rfl
 |int kd n=>
  cases n with
  |ofNat m=>exact IM m (fun m=>k (.int kd (.ofNat m)))
  |negSucc m=>exact IM m (fun m=>k (.int kd (.negSucc m)))
 |_=>rfl
def u7{ρ:Type}(A:AW)(k:AW→ρ):ρ:=match A with|⟨h,n,tp⟩=>CC n (fun n=>match h with| .nil=>k ⟨.nil,n,tp⟩| .node a b c=>k ⟨.node a b c,n,tp⟩)
theorem EO{ρ:Type}(A:AW)(k:AW→ρ):u7 A k=k A:=by
 obtain⟨h,n,tp⟩:=A;unfold u7;simp only [IM];cases h<;>rfl
abbrev aZ(α:Type):=Option (List (α×AW))
def R3{α γ:Type}(f:α→Option (List γ))(l:List α):Option (List γ):=
 List.rec (motive:=fun _=>Option (List γ)) (some []) (fun a _ ih=>match f a with|none=>none|some r=>match ih with|none=>none|some q=>some (aj r q)) l
def j7{α γ:Type}(x:Option (List α))(f:α→Option (List γ)):Option (List γ):=
 match x with
 |none=>none
 |some [a]=>f a
 |some l=>R3 f l
theorem WC{α γ:Type}{f:α→Option (List γ)}:∀{l:List α} {q:List γ},R3 f l=some q→∀a∈l,∃r,f a=some r∧∀c∈r,c∈q
 |[],_,_,a,ha=>by cases ha
 |b::l,q,h,a,ha=>by
  have h':(match f b with|none=>none|some r=>match R3 f l with|none=>none|some q=>some (aj r q))=some q:=h;clear h;split at h'
  ·cases h'
  ·rename_i r hr;split at h'
   ·cases h'
   ·rename_i q2 pR;cases h';cases ha with
    |head=>exact⟨r,hr,fun c hc=>by rw[iN];exact List.mem_append_left _ hc⟩
    |tail _ ha=>
     obtain⟨r2,h1,h2⟩:=WC pR a ha;exact⟨r2,h1,fun c hc=>by rw[iN];exact List.mem_append_right _ (h2 c hc)⟩
theorem uO{α γ:Type}{x:Option (List α)}{f:α→Option (List γ)}{q:List γ}(h:j7 x f=some q):∃l,x=some l∧∀a∈l,∃r,f a=some r∧∀c∈r,c∈q:=by
 unfold j7 at h;split at h
 ·cases h
 ·rename_i a;exact⟨[a],rfl,fun b hb=>by simp at hb;subst hb;exact⟨q,h,fun c hc=>hc⟩⟩
 ·rename_i l _;exact⟨l,rfl,WC h⟩
def pF{γ:Type}(n:Nat)(fr:Fr)(dst:Option Tmp)(v:xM)(k:Fr→Option (List γ)):Option (List γ):=
 Option.rec (motive:=fun _=>Nat→Fr→xM→(Fr→Option (List γ))→Option (List γ)) (fun _ fr _ k=>k fr)
  (fun d n fr v k=>Bool.rec (motive:=fun _=>Option (List γ)) none (yg v (fun v=>fr.kB d v k)) (Nat.ble (Nat.succ d) n)) dst n fr v k
def oM(ops:List Oper)(fr:Gt)(o:Oper):Option Bool:=
 match o.guard with
 |none=>some true
 |some (j,want)=>match dj ops j with
  |some g=>match g.dst with
   |some t=>match fr t with
    | .bool b=>some (bs b want (not want))
    | .chan _=>none
    |_=>some false
   |none=>some false
  |none=>some false
abbrev Hx:=(cL→List xM→AW→aZ xM)→Nat→Oper→(Fr→AW→aZ Fr)→Fr→AW→aZ Fr
def dn2(r:R):Hx:=
 R.rec (motive:=fun _=>Hx)
  (fun _ _ _ _ _ _=>none)
  (fun v A' _ n o ih fr _=>pF n fr o.dst v (fun fr=>u7 A' (fun A'=>ih fr A')))
  (fun f args call n o ih fr A=>j7 (call f args A) (fun p=>pF n fr o.dst p.1 (fun fr=>ih fr p.2)))
  (fun q _ n o ih fr _=>j7 (some q) (fun p=>pF n fr o.dst p.1 (fun fr=>ih fr p.2))) r
def aS0(w:Option Bool):R→Hx:=
 Option.rec (motive:=fun _=>R→Hx) (fun _ _ _ _ _ _ _=>none)
  (Bool.rec (motive:=fun _=>R→Hx) (fun _ _ n o ih fr A=>pF n fr o.dst undef (fun fr=>ih fr A)) dn2) w
theorem bw0(w:Option Bool)(r:R)(call:cL→List xM→AW→aZ xM)(n:Nat)(o:Oper)(ih:Fr→AW→aZ Fr)(fr:Fr)(A:AW):aS0 w r call n o ih fr A=match w with
 |none=>none
 |some false=>pF n fr o.dst undef (fun fr=>ih fr A)
 |some true=>match r with
  | .fail=>none
  | .val v A'=>pF n fr o.dst v (fun fr=>u7 A' (fun A'=>ih fr A'))
  | .call f args=>j7 (call f args A) (fun p=>pF n fr o.dst p.1 (fun fr=>ih fr p.2))
  | .nd q=>j7 (some q) (fun p=>pF n fr o.dst p.1 (fun fr=>ih fr p.2)):=by
 cases w with
 |none=>rfl
 |some b=>
  cases b with
  |false=>rfl
  |true=>cases r<;>rfl
section
variable(E:av)(sq:List (Nat×List xO))(call:cL→List xM→AW→aZ xM)(n:Nat)
def tV(ops:List Oper)(l:List Oper):Fr→AW→aZ Fr:=
 List.rec (motive:=fun _=>Fr→AW→aZ Fr) (fun fr A=>some [(fr,A)])
  (fun o _ ih fr A=>aS0 (oM ops (fr.get J) o) (iY E sq A (fr.get J) o.op) call n o ih fr A) l
def QE(ms:List Nat):AW→Option AW:=
 List.rec (motive:=fun _=>AW→Option AW) (fun A=>some A) (fun D _ ih A=>match A.get D with
  |some ⟨.wG,_,_,_,_⟩=>bs (Nat.ble E.G.n D) (ih (A.put D none)) none
  |_=>none) ms
def aa4(j:Option Code):Vn:=match j with|none=> .ready|some j=> .done j
def JG(j:Vn)(L:Nat)(fr:Fr)(A:AW):aZ Fr:=
 match A.get L with
 |some ⟨.loop .busy t m ps a b,es,ex,r,ty⟩=>bs (Nat.ble E.G.n L) (some [(fr,A.put L (some ⟨.loop j t m ps a b,es,ex,r,ty⟩))]) none
 |_=>none
def DJ(ro:Option Nat)(ms:List Nat)(fr:Fr)(A:AW):aZ Fr:=
 match ro with
 |none=>match QE E ms A with
  |some A'=>some [(fr,A')]
  |none=>none
 |some L=>JG E .ready L fr A
def yE(ro:Option Nat)(j:Code)(fr:Fr)(A:AW):aZ Fr:=
 match ro with
 |none=>none
 |some L=>JG E (.done j) L fr A
def P6(ih:List Nat→List Item→Fr→AW→aZ Fr)(ms:List Nat)(f:Operand)(ps:List Nat)(a b:Code)(k:List Item)(fr:Fr)(A:AW):aZ Fr:=
 match yI E A (ev E (fr.get J) f) [.func (.yield (Nat.add A.next 1)) ⟨[]⟩ ⟨[]⟩] with
 | .call (.fn g) args=>bs (Nat.ble E.G.n A.next) (j7 (call (.fn g) args ((A.add ⟨.wG,0,true,false,0⟩).add ⟨.loop .ready fr n ps a b,0,true,false,0⟩)) (fun p=>
  match p.2.get (Nat.add A.next 1) with
  |some ⟨.loop .ready _ _ _ _ _,_,_,_,_⟩=>ih (A.next::ms) k fr (p.2.put (Nat.add A.next 1) none)
  |some ⟨.loop (.done j) _ _ _ _ _,_,_,_,_⟩=>ih (A.next::ms) (.code j::k) fr (p.2.put (Nat.add A.next 1) none)
  |_=>none)) none
 |_=>none
def Zf(bL:List Oper→Fr→AW→aZ Fr)(ro:Option Nat)(ih:List Nat→List Item→Fr→AW→aZ Fr)(ms:List Nat)(eh:List Item)(fr:Fr)(A:AW):aZ Fr:=
 match eh with
 |[]=>DJ E ro ms fr A
 | .code .ret::_=>match ro with|none=>DJ E none ms fr A|some L=>yE E (some L) .ret fr A
 | .code .skip::k=>ih ms k fr A
 | .code (.label _)::k=>ih ms k fr A
 | .code (.seq a b)::k=>ih ms (.code a:: .code b::k) fr A
 | .code (.cond c x y)::k=>match ev E (fr.get J) c with
  | .bool b=>ih ms (.code (bs b x y)::k) fr A
  |_=>none
 | .code (.block id c)::k=>ih ms (.code c:: .inBlock id::k) fr A
 | .code (.loop c)::k=>ih ms (.code c:: .inLoop c::k) fr A
 | .code (.scope c)::k=>ih ms (.code c:: .inScope c::k) fr A
 | .code (.exit id)::k=>match exitTo id k with|some k'=>ih ms k' fr A|none=>yE E ro (.exit id) fr A
 | .code (.goto l)::k=>match gotoIn l k with|some k'=>ih ms k' fr A|none=>yE E ro (.goto l) fr A
 | .code (.region _ ⟨ops⟩ false)::k=>j7 (tV E sq call n ops ops fr A) (fun p=>ih ms k p.1 p.2)
 | .code (.region _ ⟨ops⟩ true)::k=>j7 (bL ops fr A) (fun p=>ih ms k p.1 p.2)
 | .code (.rangeFunc f ⟨ps⟩ a b)::k=>match ro with|none=>P6 E call n ih ms f ps a b k fr A|some _=>none
 | .beginRound::k=>match ro with
  |none=>none
  |some L=>match A.get L with
   |some ⟨.loop .ready t m ps a b,es,ex,r,ty⟩=>bs (Nat.ble E.G.n L) (ih ms k fr (A.put L (some ⟨.loop .busy t m ps a b,es,ex,r,ty⟩))) none
   |_=>none
 | .inBlock _::k=>ih ms k fr A
 | .inScope _::k=>ih ms k fr A
 | .inLoop c::k=>ih ms (.code c:: .inLoop c::k) fr A
 |_=>none
abbrev LM:=List Item→av→List (Nat×List xO)→(cL→List xM→AW→aZ xM)→Nat→(List Oper→Fr→AW→aZ Fr)→Option Nat→(List Nat→List Item→Fr→AW→aZ Fr)→List Nat→Fr→AW→aZ Fr
def bU0(E:av)(ro:Option Nat)(ih:List Nat→List Item→Fr→AW→aZ Fr)(ms:List Nat)(k:List Item)(fr:Fr)(A:AW):aZ Fr:=
 match ro with
  |none=>none
  |some L=>match A.get L with
   |some ⟨.loop .ready t m ps a b,es,ex,r,ty⟩=>bs (Nat.ble E.G.n L) (ih ms k fr (A.put L (some ⟨.loop .busy t m ps a b,es,ex,r,ty⟩))) none
   |_=>none
def cJ9(c:Code):LM:=
 Code.rec (motive:=fun _=>LM)
  (fun k _ _ _ _ _ _ ih ms fr A=>ih ms k fr A)
  (fun _ ops dr k E sq call n bL _ ih ms fr A=>bs dr (j7 (bL ops.toList fr A) (fun p=>ih ms k p.1 p.2)) (j7 (tV E sq call n ops.toList ops.toList fr A) (fun p=>ih ms k p.1 p.2)))
  (fun a b _ _ k _ _ _ _ _ _ ih ms fr A=>ih ms (.code a:: .code b::k) fr A)
  (fun c x y _ _ k E _ _ _ _ _ ih ms fr A=>match ev E (fr.get J) c with| .bool b=>ih ms (.code (bs b x y)::k) fr A|_=>none)
  (fun id c _ k _ _ _ _ _ _ ih ms fr A=>ih ms (.code c:: .inBlock id::k) fr A)
  (fun c _ k _ _ _ _ _ _ ih ms fr A=>ih ms (.code c:: .inLoop c::k) fr A)
  (fun f ps a b _ _ k E _ call n _ ro ih ms fr A=>match ro with|none=>P6 E call n ih ms f ps.toList a b k fr A|some _=>none)
  (fun id k E _ _ _ _ ro ih ms fr A=>match exitTo id k with|some k'=>ih ms k' fr A|none=>yE E ro (.exit id) fr A)
  (fun c _ k _ _ _ _ _ _ ih ms fr A=>ih ms (.code c:: .inScope c::k) fr A)
  (fun _ k _ _ _ _ _ _ ih ms fr A=>ih ms k fr A)
  (fun l k E _ _ _ _ ro ih ms fr A=>match gotoIn l k with|some k'=>ih ms k' fr A|none=>yE E ro (.goto l) fr A)
  (fun _ E _ _ _ _ ro _ ms fr A=>match ro with|none=>DJ E none ms fr A|some L=>yE E (some L) .ret fr A)
  (fun _ _ _ _ _ _ _ _ _ _ _ _=>none) c
def cl9(i:Item):LM:=
 Item.rec (motive:=fun _=>LM)
  (fun c=>cJ9 c)
  (fun _ k _ _ _ _ _ _ ih ms fr A=>ih ms k fr A)
  (fun c k _ _ _ _ _ _ ih ms fr A=>ih ms (.code c:: .inLoop c::k) fr A)
  (fun _ k _ _ _ _ _ _ ih ms fr A=>ih ms k fr A)
  (fun _ _ _ _ _ _ _ _ _ _ _ _ _=>none)
  (fun _ _ _ _ _ _ _ _ _ _ _ _=>none)
  (fun _ _ _ _ _ _ _ _ _ _ _ _=>none)
  (fun k E _ _ _ _ ro ih ms fr A=>bU0 E ro ih ms k fr A)
  (fun _ _ _ _ _ _ _ _ _ _ _ _ _ _ _=>none)
  (fun _ _ _ _ _ _ _ _ _ _ _ _ _=>none) i
def QH(bL:List Oper→Fr→AW→aZ Fr)(ro:Option Nat)(ih:List Nat→List Item→Fr→AW→aZ Fr)(ms:List Nat)(eh:List Item)(fr:Fr)(A:AW):aZ Fr:=
 List.rec (motive:=fun _=>av→List (Nat×List xO)→(cL→List xM→AW→aZ xM)→Nat→(List Oper→Fr→AW→aZ Fr)→Option Nat→(List Nat→List Item→Fr→AW→aZ Fr)→List Nat→Fr→AW→aZ Fr)
  (fun E _ _ _ _ ro _ ms fr A=>DJ E ro ms fr A) (fun i k _=>cl9 i k) eh E sq call n bL ro ih ms fr A
theorem bh2(bL:List Oper→Fr→AW→aZ Fr)(ro:Option Nat)(ih:List Nat→List Item→Fr→AW→aZ Fr)(ms:List Nat)(eh:List Item)(fr:Fr)(A:AW):QH E sq call n bL ro ih ms eh fr A=Zf E sq call n bL ro ih ms eh fr A:=by
 cases eh with
 |nil=>rfl
 |cons i k=>
  cases i with
  |code c=>
   cases c with
   |region id ops dr=>obtain⟨ops⟩:=ops;cases dr<;>rfl
   |rangeFunc f ps a b=>obtain⟨ps⟩:=ps;rfl
   |_=>rfl
  |_=>rfl
def vG(bL:List Oper→Fr→AW→aZ Fr)(ro:Option Nat)(aP:Nat):List Nat→List Item→Fr→AW→aZ Fr:=
 Nat.rec (motive:=fun _=>List Nat→List Item→Fr→AW→aZ Fr) (fun _ _ _ _=>none) (fun _ ih=>QH E sq call n bL ro ih) aP
end
def LK{ρ:Type}(l:List xM):Nat→Fr→(Fr→ρ)→ρ:=
 List.rec (motive:=fun _=>Nat→Fr→(Fr→ρ)→ρ) (fun _ fr k=>k fr) (fun v _ ih i fr k=>fr.kB i v (fun fr=>ih (Nat.add i 1) fr k)) l
def Si(E:av)(fr:Fr)(A:AW)(l:List ResultVar):Option (List xM):=
 List.rec (motive:=fun _=>Option (List xM)) (some [])
  (fun r _ ih=>match(match r with| .tmp t=>some (fr.get J t)| .cell a t=>yn E A t (fr.get J a)),ih with
   |some v,some vs=>some (v::vs)
   |_,_=>none) l
def G7(E:av)(fr:Fr)(A:AW)(l:List ResultVar):Option xM:=
 match Si E fr A l with
 |some [v]=>some v
 |some vs=>some (.tuple ⟨vs⟩)
 |none=>none
def J3{ρ:Type}(ps:List Nat):List xM→Fr→(Fr→ρ)→ρ:=
 List.rec (motive:=fun _=>List xM→Fr→(Fr→ρ)→ρ) (fun _ fr k=>k fr) (fun t _ ih args fr k=>match args with
  |[]=>k fr
  |v::vs=>fr.kB t v (fun fr=>ih vs fr k)) ps
def P5(L:Nat)(A:AW):aZ xM:=
 match A.get L with
 |some ⟨.loop .ready _ _ _ _ _,_,_,_,_⟩=>some [(.bool true,A)]
 |some ⟨.loop (.done _) _ _ _ _ _,_,_,_,_⟩=>some [(.bool false,A)]
 |_=>none
def qC(E:av)(sq:List (Nat×List xO))(bL:(cL→List xM→AW→aZ xM)→Nat→List Oper→Fr→AW→aZ Fr)(hR:cL→List xM→AW→aZ xM)(aP depth:Nat):cL→List xM→AW→aZ xM:=
 Nat.rec (motive:=fun _=>cL→List xM→AW→aZ xM) (fun _ _ _=>none)
  (fun _ ih t args A=>match hR t args A with
   |some o=>some o
   |none=>match t with
   | .fn f=>match E.fn.get none f with
    |some ⟨_,_,_,_,_,_,nt,⟨rs⟩,some c,_,_,_,_,_,_,_⟩=>
     bs (Nat.ble (bE args) nt) (LK args 0 (T.full undef (Nat.add (Nat.log2 (Nat.add nt 1)) 1)) (fun fr=>
      j7 (vG E sq ih nt (bL ih nt) none aP [] [.code c] fr A) (fun p=>match G7 E p.1 p.2 rs with|some v=>some [(v,p.2)]|none=>none))) none
    |_=>none
   | .rd L=>match A.get L with
    |some ⟨.loop .ready fr n ps a b,_,_,_,_⟩=>
     bs (Nat.beq (bE args) (bE ps)&&eo (fun t=>Nat.blt t n) ps) (J3 ps args fr (fun fr=>
      j7 (vG E sq ih n (bL ih n) (some L) aP [] [.code a,.beginRound,.code b] fr A) (fun p=>P5 L p.2))) none
    |_=>none
   | .dy _=>none) depth
section
variable{α:Type}
def alt(l:List α):Bool→List α:=
 List.rec (motive:=fun _=>Bool→List α) (fun _=>[]) (fun a _ ih b=>bs b (a::ih false) (ih true)) l
def za(k:Nat):List α→T (Option α):=
 Nat.rec (motive:=fun _=>List α→T (Option α)) (fun _=> .nil) (fun _ ih l=>List.rec (motive:=fun _=>T (Option α)) .nil (fun a r _=> .node (ih (alt r true)) (some a) (ih (alt r false))) l) k
theorem Ck(l:List α):∀(b:Bool) (m:Nat),(alt l b)[m]? =l[2*m+(if b then 0 else 1)]? :=by
 induction l with
 |nil=>intro b m;simp[alt]
 |cons a l ih=>
  intro b m;cases b with
  |true=>
   show(a::alt l false)[m]? =_;cases m with
   |zero=>simp
   |succ m=>rw[List.getElem?_cons_succ,ih false m,if_pos rfl,Nat.add_zero,show 2*(m+1)=(2*m+1)+1 by omega,List.getElem?_cons_succ];simp
  |false=>
   show(alt l true)[m]? =_;rw[ih true m];simp
theorem EZ:∀(k:Nat) (l:List α) (i:Nat) (x:α),(za k l).get none i=some x→l[i]? =some x
 |0,l,i,x,h=>by cases h
 |k+1,[],i,x,h=>by cases h
 |k+1,a::r,i,x,h=>by
  have h':(T.node (za k (alt r true)) (some a) (za k (alt r false))).get none i=some x:=h;rw[T.jz] at h';split at h'
  ·rename_i h0;subst h0;simpa using h'
  ·split at h'
   ·have:=EZ k _ _ _ h';rw[Ck] at this;rw[show i=2*(i/2)+1 by omega,List.getElem?_cons_succ];simpa using this
   ·have:=EZ k _ _ _ h';rw[Ck] at this;rw[show i=(2*(i/2 - 1)+1)+1 by omega,List.getElem?_cons_succ];simpa using this
end
def Sg(ts:List TypeInfo)(d:TypeDesc):Option TypeDesc:=
 match d with
 | .named _ u=>match dj ts u with|some i=>some i.desc|none=>none
 |d=>some d
def Dh(d:TypeDesc)(z:Option xM):List xM×Bool:=
 match z with
 |some (.agg ⟨l⟩)=>bs (lU d) (l,true) ([],false)
 |some (.tuple _)=>([],false)
 |some v=>bs (lU d) ([],false) ([v],true)
 |none=>([],false)
def J2(ts:List TypeInfo)(i:TypeInfo):Option Row:=
 match Sg ts i.desc with
 |some d=>some ⟨d,i.size,i.bytes,(Dh d i.zero).1,(Dh d i.zero).2⟩
 |none=>none
def join(t:T (Option (Option Row))):T (Option Row):=
 T.rec (motive:=fun _=>T (Option Row)) .nil (fun _ v _ l r=> .node l (match v with|some x=>x|none=>none) r) t
def QS(P:Program)(G:GP)(ne:List Nat)(lay:List (Nat×Nat×Nat))(ib:List Nat:=[])(mz:List (Nat×Nat):=[]):av where
 ti:=join (za 11 (ez (J2 P.types.toList) P.types.toList))
 fn:=za 10 P.funcs.toList
 ne:=ne
 ib:=ib
 mz:=mz
 lay:=lay
 G:=G
end
end Go.Ex
